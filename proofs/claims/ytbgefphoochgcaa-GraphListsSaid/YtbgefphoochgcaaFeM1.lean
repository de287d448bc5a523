/- FE, a verified evaluator of the program's functions over data: part 1 of 3. -/
import Derived.Calls
import Derived.Below
import Derived.Laws.Sem
import Derived.Laws.Append
import Derived.Laws.Tables
import Derived.Laws.Entries
import Derived.Laws.Cells
import Derived.Laws.AppendOwn
import Derived.Laws.MakeOwn
/- FE, part 1: the evaluator: typed data, states, operations as small programs over a state, code in continuations. Nothing is proved here; nothing of a program stands here. -/
namespace Go.Proofs.Ytbgefphoochgcaa.FE
open Go
set_option linter.unusedVariables false
set_option linter.unusedSimpArgs false

/-! ### typed data -/
inductive Ty where
  | bool | int (k : IntKind) | str | unit
  | pair (a b : Ty) | st (r : Ty) | sl (e : Ty) | mp (k v : Ty) | pt (t : Ty)
  deriving Inhabited
def IK : IntKind → Nat | .i8 => 0 | .i16 => 1 | .i32 => 2 | .i64 => 3 | .u8 => 4 | .u16 => 5 | .u32 => 6 | .u64 => 7
def Ty.beq : Ty → Ty → Bool
  | .bool, .bool => true
  | .int k, .int k' => Nat.beq (IK k) (IK k')
  | .str, .str => true
  | .unit, .unit => true
  | .pair a b, .pair c d => and (a.beq c) (b.beq d)
  | .st a, .st b => a.beq b
  | .sl a, .sl b => a.beq b
  | .mp a b, .mp c d => and (a.beq c) (b.beq d)
  | .pt a, .pt b => a.beq b
  | _, _ => false
theorem Ty.eq_of_beq : ∀ {a b : Ty}, a.beq b = true → a = b := by
  intro a
  induction a <;> intro b h <;> cases b <;> simp_all [Ty.beq]
  case int.int k k' => cases k <;> cases k' <;> simp_all [IK]
  case pair.pair h1 h2 c d => exact ⟨h1 h.1, h2 h.2⟩
  case st.st h1 _ => exact h1 h
  case sl.sl h1 _ => exact h1 h
  case mp.mp h1 h2 c d => exact ⟨h1 h.1, h2 h.2⟩
  case pt.pt h1 _ => exact h1 h

@[reducible] def El : Ty → Type
  | .bool => Bool | .int _ => Int | .str => ByteArray | .unit => Unit
  | .pair a b => El a × El b | .st r => El r | .sl e => List (El e) | .mp k v => List (El k × El v) | .pt t => Option (El t)
def zeroEl : (t : Ty) → El t
  | .bool => false | .int _ => (0 : Int) | .str => ByteArray.empty | .unit => ()
  | .pair a b => (zeroEl a, zeroEl b) | .st r => zeroEl r | .sl e => ([] : List (El e)) | .mp k v => ([] : List (El k × El v)) | .pt t => (none : Option (El t))
def cast? (t t' : Ty) (x : El t) : Option (El t') :=
  match h : t.beq t' with
  | true => some (Ty.eq_of_beq h ▸ x)
  | false => none
/-- A datum with its type. -/
structure DL where
  t : Ty
  x : El t

def width : Ty → Nat
  | .pair a b => width a + width b
  | .st r => width r
  | .unit => 0
  | _ => 1

/-! ### words on lists, for what is printed -/
/-- An element by Go's index. -/
def idx {α : Type} (xs : List α) (n : Int) : Option α := match decide (0 ≤ n) with | true => xs[n.toNat]? | false => none
/-- xs[lo:hi] of what is there. -/
def cut {α : Type} (xs : List α) (lo hi : Int) : Option (List α) :=
  match and (decide (0 ≤ lo)) (and (decide (lo ≤ hi)) (decide (hi ≤ (xs.length : Int)))) with
  | true => some ((xs.take hi.toNat).drop lo.toNat)
  | false => none
def keyEq : (t : Ty) → El t → El t → Bool
  | .bool, x, y => x == y
  | .int _, x, y => decide (x = y)
  | .str, x, y => x == y
  | .unit, _, _ => true
  | .pair a b, x, y => and (keyEq a x.1 y.1) (keyEq b x.2 y.2)
  | .st r, x, y => keyEq r x y
  | _, _, _ => false
def look {k v : Ty} : List (El k × El v) → El k → Option (El v)
  | [], _ => none
  | (a, b) :: r, x => match keyEq k x a with | true => some b | false => look r x
def upd {k v : Ty} : List (El k × El v) → El k → El v → List (El k × El v)
  | [], x, y => [(x, y)]
  | (a, b) :: r, x, y => match keyEq k x a with | true => (x, y) :: r | false => (a, b) :: upd r x y
/-- The place of a key (behind all: it isn't there). -/
def posOf {k v : Ty} : List (El k × El v) → El k → Nat
  | [], _ => 0
  | (a, _) :: r, x => match keyEq k x a with | true => 0 | false => posOf r x + 1
def setVal {α β : Type} (m : List (α × β)) (j : Nat) (y : β) : List (α × β) := m.modify j fun p => (p.1, y)
def del {k v : Ty} : List (El k × El v) → El k → List (El k × El v)
  | [], _ => []
  | (a, b) :: r, x => match keyEq k x a with | true => r | false => (a, b) :: del r x

/-! ### states -/
abbrev Id := Nat × Nat × Nat
inductive Loc where
  | tmp (t : Nat) | comp (t i : Nat) | box (b : Id) (j : Nat) | om
inductive Leaf (Ω : Type) where
  | dat (t : Ty) (x : El t)
  | nilS | nilM | nilP
  | arr (id : Id) (e : Ty) (xs : List (El e))
  | omp (id : Id) (k v : Ty) (m : List (El k × El v))
  | ref (id : Id) (off n : Nat)
  | ali (l : Loc) (id : Id)
  | avw (l : Loc) (id : Id) (sz : Nat) (lo hi : Int)
  | eptr (t : Ty) (x : El t)
  | aptr (l : Loc) (id : Id) (sz : Nat) (n : Int) (off : Nat)
  | clo (f : Nat) (caps : List (Id × Nat × Nat))
  | fnv
  | ent (l : Loc) (id0 id : Id) (j : Nat)
  | opq (s : Ω)
  | dead
inductive AV (Ω : Type) where
  | one (l : Leaf Ω) | agg (ls : List (Leaf Ω)) | tup (vs : List (Bool × List (Leaf Ω)))
def idB (a b : Id) : Bool := and (Nat.beq a.1 b.1) (and (Nat.beq a.2.1 b.2.1) (Nat.beq a.2.2 b.2.2))
def locB : Loc → Loc → Bool
  | .tmp a, .tmp b => Nat.beq a b
  | .comp a i, .comp b j => and (Nat.beq a b) (Nat.beq i j)
  | .box a i, .box b j => and (idB a b) (Nat.beq i j)
  | .om, .om => true
  | _, _ => false
section
variable {Ω : Type}
abbrev S (Ω : Type) := List (Loc × AV Ω)
def S.get : S Ω → Loc → AV Ω
  | [], _ => .one .dead
  | (a, v) :: r, l => match locB a l with | true => v | false => S.get r l

/-- The leaves of a row. -/
def unpack : (t : Ty) → El t → List (Leaf Ω)
  | .pair a b, x => unpack a x.1 ++ unpack b x.2
  | .st r, x => unpack r x
  | .unit, _ => []
  | t, x => [.dat t x]
def pack : (t : Ty) → List (Leaf Ω) → Option (El t × List (Leaf Ω))
  | .pair a b, ls => (pack a ls).bind fun x => (pack b x.2).bind fun y => some ((x.1, y.1), y.2)
  | .st r, ls => pack r ls
  | .unit, ls => some ((), ls)
  | .sl e, .nilS :: r => some (([] : List (El e)), r)
  | .mp k v, .nilM :: r => some (([] : List (El k × El v)), r)
  | .pt t, .nilP :: r => some ((none : Option (El t)), r)
  | t, .dat t' x :: r => (cast? t' t x).bind fun y => some (y, r)
  | _, _ => none
/-- A whole row. -/
def packAll (t : Ty) (ls : List (Leaf Ω)) : Option (El t) := (pack t ls).bind fun x => match x.2 with | [] => some x.1 | _ => none
def zeroLeaf : Ty → List (Leaf Ω)
  | .pair a b => zeroLeaf a ++ zeroLeaf b
  | .st r => zeroLeaf r
  | .unit => []
  | .sl _ => [.nilS]
  | .mp _ _ => [.nilM]
  | .pt _ => [.nilP]
  | t => [.dat t (zeroEl t)]
def rowB : Ty → Bool | .st _ => true | _ => false

/-! ### the table of types -/
inductive TK where
  | int (k : IntKind) | bool | str | sl (e : Nat) | st (fs : List (Nat × Nat)) | ptr (e : Nat) | mp (k v : Nat) | other
structure TI where
  size : Nat
  kind : TK
  ty : Ty
abbrev Tab := List (Option TI)
def Tab.get : Tab → Nat → Option TI
  | [], _ => none
  | x :: _, 0 => x
  | _ :: r, n + 1 => Tab.get r n
def isSt : TK → Bool | .st _ => true | _ => false

/-! ### small programs over a state: what is read, what is written -/
inductive Prg (Ω : Type) : Type 1 where
  | get (l : Loc) (f : AV Ω → Prg Ω)
  | ite (b : Bool) (t e : Prg Ω)
  | bind {β : Type} (m : Option β) (f : β → Prg Ω)
  | upd (ws : List (Loc × AV Ω)) (p : Prg Ω)
  | done (ws : List (Loc × AV Ω))
  | fail
def Prg.run {R : Type} : Prg Ω → S Ω → List Loc → (List Loc → List (Loc × AV Ω) → Option R) → Option R
  | .get l f, st, rs, k => Prg.run (f (st.get l)) st (l :: rs) k
  | .ite b t e, st, rs, k => match b with | true => Prg.run t st rs k | false => Prg.run e st rs k
  | .bind m f, st, rs, k => m.bind fun y => Prg.run (f y) st rs k
  | .upd ws p, st, rs, k => Prg.run p (ws ++ st) rs fun rs' ws' => k rs' (ws' ++ ws)
  | .done ws, st, rs, k => k rs ws
  | .fail, _, _, _ => none
def Prg.opt {β : Type _} (m : Option β) (f : β → Prg Ω) : Prg Ω := match m with | some y => f y | none => .fail

/-! ### operands -/
def constAV : Value → AV Ω
  | .bool b => .one (.dat .bool b)
  | .int k n => .one (.dat (.int k) n)
  | .string s => .one (.dat .str s)
  | .slice none 0 0 => .one .nilS
  | .map none => .one .nilM
  | .pointer none => .one .nilP
  | _ => .one .dead
def opG (o : Operand) (f : AV Ω → Prg Ω) : Prg Ω :=
  match o with
  | .tmp t => .get (.tmp t) f
  | .const v => f (constAV v)
  | .func n => f (.one (.clo n []))
  | .global _ => .fail
/-- An owned value, looked at as data; other values as they are. -/
def borrow (v : AV Ω) (f : AV Ω → Prg Ω) : Prg Ω :=
  match v with
  | .one (.ali l id) => .get l fun u => match u with
    | .one (.arr id' e xs) => (match idB id id' with | true => f (.one (.dat (.sl e) xs)) | false => .fail)
    | .one (.omp id' a b m) => (match idB id id' with | true => f (.one (.dat (.mp a b) m)) | false => .fail)
    | _ => .fail
  | .one (.avw l id sz lo hi) => .get l fun u => match u with
    | .one (.arr id' e xs) => (match and (idB id id') (Nat.beq sz (width e)) with | true => .bind (cut xs lo hi) fun ys => f (.one (.dat (.sl e) ys)) | false => .fail)
    | _ => .fail
  | .one (.arr _ e xs) => f (.one (.dat (.sl e) xs))
  | .one (.omp _ a b m) => f (.one (.dat (.mp a b) m))
  | v => f v
/-- An owned value becomes data, for good: the state says so from here on. -/
def freeze1 (o : Operand) (v : AV Ω) (f : AV Ω → Prg Ω) : Prg Ω :=
  match v with
  | .one (.ali l id) => .get l fun u => match u with
    | .one (.arr id' e xs) => (match idB id id' with | true => .upd [(l, .one (.dat (.sl e) xs))] (f (.one (.dat (.sl e) xs))) | false => .fail)
    | .one (.omp id' a b m) => (match idB id id' with | true => .upd [(l, .one (.dat (.mp a b) m))] (f (.one (.dat (.mp a b) m))) | false => .fail)
    | _ => .fail
  | .one (.avw l id sz lo hi) => .get l fun u => match u with
    | .one (.arr id' e xs) => (match and (idB id id') (Nat.beq sz (width e)) with | true => .bind (cut xs lo hi) fun ys => .upd [(l, .one (.dat (.sl e) xs))] (f (.one (.dat (.sl e) ys))) | false => .fail)
    | _ => .fail
  | .one (.arr _ e xs) => (match o with | .tmp t => .upd [(.tmp t, .one (.dat (.sl e) xs))] (f (.one (.dat (.sl e) xs))) | _ => .fail)
  | .one (.omp _ a b m) => (match o with | .tmp t => .upd [(.tmp t, .one (.dat (.mp a b) m))] (f (.one (.dat (.mp a b) m))) | _ => .fail)
  | v => f v
def freezeLs : List (Leaf Ω) → (List (Leaf Ω) → Prg Ω) → Prg Ω
  | [], f => f []
  | l :: r, f => freeze1 (.const (.bool true)) (.one l) fun u => match u with | .one l' => freezeLs r fun ls => f (l' :: ls) | _ => .fail
def freeze (o : Operand) (v : AV Ω) (f : AV Ω → Prg Ω) : Prg Ω :=
  match v with
  | .agg ls => freezeLs ls fun us => f (.agg us)
  | .one l => freeze1 o (.one l) f
  | .tup vs => f (.tup vs)
/-- An owned value goes elsewhere: where it stood, nothing is left. 'nid': the id of a part that is taken of it. -/
def takeV (o : Operand) (nid : Id) (v : AV Ω) (f : AV Ω → Prg Ω) : Prg Ω :=
  match v with
  | .one (.ali l id) => .get l fun u => match u with
    | .one (.arr id' e xs) => (match idB id id' with | true => .upd [(l, .one .dead)] (f (.one (.arr id' e xs))) | false => .fail)
    | .one (.omp id' a b m) => (match idB id id' with | true => .upd [(l, .one .dead)] (f (.one (.omp id' a b m))) | false => .fail)
    | _ => .fail
  | .one (.avw l id sz lo hi) => .get l fun u => match u with
    | .one (.arr id' e xs) => (match and (idB id id') (Nat.beq sz (width e)) with | true => .bind (cut xs lo hi) fun ys => .upd [(l, .one .dead)] (f (.one (.arr nid e ys))) | false => .fail)
    | _ => .fail
  | .one (.arr id e xs) => (match o with | .tmp t => .upd [(.tmp t, .one .dead)] (f (.one (.arr id e xs))) | _ => .fail)
  | .one (.omp id a b m) => (match o with | .tmp t => .upd [(.tmp t, .one .dead)] (f (.one (.omp id a b m))) | _ => .fail)
  | v => f v
def leavesOf : AV Ω → List (Leaf Ω) | .one l => [l] | .agg ls => ls | .tup _ => []
def avOf (agg : Bool) (ls : List (Leaf Ω)) : AV Ω :=
  match agg with | true => .agg ls | false => match ls with | [l] => .one l | _ => .one .dead
/-- A copy: an owned value is copied as a look at it. -/
def copyV (o : Operand) (v : AV Ω) : AV Ω :=
  match v, o with
  | .one (.arr id _ _), .tmp t => .one (.ali (.tmp t) id)
  | .one (.omp id _ _ _), .tmp t => .one (.ali (.tmp t) id)
  | v, _ => v
def intOf (v : AV Ω) (f : Int → Prg Ω) : Prg Ω := match v with | .one (.dat (.int _) n) => f n | _ => .fail
def boolOf (v : AV Ω) (f : Bool → Prg Ω) : Prg Ω := match v with | .one (.dat .bool b) => f b | _ => .fail

/-! ### functions by contract -/
inductive LS where
  | dat (t : Ty) | arr (e : Ty) | omp (k v : Ty)
def LS.ty : LS → Ty | .dat t => t | .arr e => .sl e | .omp k v => .mp k v
/-- Parameters: a value; a slice or map that is written (and comes back); a pointer to what stays; a pointer to a variable that is written. -/
inductive PS where
  | v (s : LS) | mu (s : LS) | ep (t : Ty) | bx (ls : List LS) | fn
inductive RS where
  | v (s : LS) | bx (ls : List LS)
def PS.tys : PS → List Ty
  | .v s | .mu s => [s.ty]
  | .ep t => [t]
  | .bx ls => ls.map LS.ty
  | .fn => []
def PS.outs : PS → List Ty
  | .mu s => [s.ty]
  | .bx ls => ls.map LS.ty
  | _ => []
def RS.tys : RS → List Ty
  | .v s => [s.ty]
  | .bx ls => ls.map LS.ty
structure Sig where
  pars : List PS
  res : List RS
@[reducible] def Tup : List Ty → Type
  | [] => Unit
  | t :: ts => El t × Tup ts
@[reducible] def outTy : List Ty → Ty
  | [] => .unit
  | [t] => t
  | t :: ts => .pair t (outTy ts)
def Sig.ins (s : Sig) : List Ty := s.pars.flatMap PS.tys
def Sig.outs (s : Sig) : List Ty := s.res.flatMap RS.tys ++ s.pars.flatMap PS.outs
def scalar : Ty → Bool
  | .bool | .int _ | .str | .unit => true
  | .pair a b => and (scalar a) (scalar b)
  | .st r => scalar r
  | _ => false
def mkTup : (ts : List Ty) → List DL → Option (Tup ts)
  | [], [] => some ()
  | t :: ts, d :: ds => (cast? d.t t d.x).bind fun x => (mkTup ts ds).bind fun r => some (x, r)
  | _, _ => none
def unTup : (ts : List Ty) → Tup ts → List DL
  | [], _ => []
  | t :: ts, x => ⟨t, x.1⟩ :: unTup ts x.2
def mkOut : (ts : List Ty) → List DL → Option (El (outTy ts))
  | [], [] => some ()
  | [t], [d] => cast? d.t t d.x
  | t :: s :: ts, d :: ds => (cast? d.t t d.x).bind fun x => (mkOut (s :: ts) ds).bind fun r => some (x, r)
  | _, _ => none
def unOut : (ts : List Ty) → El (outTy ts) → List DL
  | [], _ => []
  | [t], x => [⟨t, x⟩]
  | t :: s :: ts, x => ⟨t, x.1⟩ :: unOut (s :: ts) x.2
/-- A function's contract, as the evaluator has it. With a closure among its parameters: 'hof'. -/
structure Fun where
  sig : Sig
  f : Tup sig.ins → Option (El (outTy sig.outs))
/-- A function that takes a closure (data in, a datum out): for each state of it. -/
structure Hof where
  sig : Sig
  as : List Ty
  b : Ty
  f : (Ω : Type) → (Ω → Tup as → Option (El b × Ω)) → Ω → Tup sig.ins → Option (El (outTy sig.outs) × Ω)
structure CloG (Ω : Type) where
  as : List Ty
  b : Ty
  g : Ω → Tup as → Option (El b × Ω)
/-- What may be called: functions; functions that take a closure; the closure that came in. -/
structure Env (Ω : Type) where
  funs : List (Nat × Fun)
  hofs : List (Nat × Hof)
  clo : Option (CloG Ω)
end
end Go.Proofs.Ytbgefphoochgcaa.FE
/- FE, part 2: what each operation does to a state, as a small program. -/
namespace Go.Proofs.Ytbgefphoochgcaa.FE
open Go
set_option linter.unusedVariables false
set_option linter.unusedSimpArgs false
section
variable {Ω : Type}

/-- A slice is not let grow past this. -/
def LIM : Nat := 68719476736
def limB (n : Nat) : Bool := decide (n ≤ LIM)
def imax (a b : Int) : Int := match decide (b > a) with | true => b | false => a
def imin (a b : Int) : Int := match decide (b < a) with | true => b | false => a
def bitsOf (op : BinOp) (k : IntKind) (x y : Int) : Option Int :=
  match op with
  | .and => some (k.wrap (BitVec.ofInt k.bits x &&& BitVec.ofInt k.bits y).toNat)
  | .or => some (k.wrap (BitVec.ofInt k.bits x ||| BitVec.ofInt k.bits y).toNat)
  | .xor => some (k.wrap (BitVec.ofInt k.bits x ^^^ BitVec.ofInt k.bits y).toNat)
  | _ => none
def strLt (x y : ByteArray) : Bool := Op.bytesLess x.toList y.toList
def strEq (x y : ByteArray) : Bool := x.toList == y.toList

def keyL : AV Ω → List (Leaf Ω) | .one l => [l] | _ => []
/-- Has it a known number of cells? -/
def liveL : Leaf Ω → Bool | .dead => false | _ => true
def allLive : List (Leaf Ω) → Bool
  | [] => true
  | l :: r => match liveL l with | true => allLive r | false => false
def sizedV : AV Ω → Bool
  | .one l => liveL l
  | .agg ls => allLive ls
  | .tup _ => false
def aggV : AV Ω → Bool | .agg _ => true | _ => false
def fitsV (u : AV Ω) (n : Nat) : Bool := and (sizedV u) (Nat.beq (leavesOf u).length n)
def putP (o : Oper) (v : AV Ω) : Prg Ω := match o.dst with | some d => .done [(.tmp d, v)] | none => .done []
def boxW (id : Id) : Nat → List (Leaf Ω) → List (Loc × AV Ω)
  | _, [] => []
  | j, l :: ls => (.box id j, .one l) :: boxW id (j + 1) ls
/-- The leaves of a box, as a look at them. -/
def getN (id : Id) : (j n : Nat) → (List (Leaf Ω) → Prg Ω) → Prg Ω
  | _, 0, f => f []
  | j, n + 1, f => .get (.box id j) fun v => match v with
      | .one (.arr id' _ _) => getN id (j + 1) n fun ls => f (.ali (.box id j) id' :: ls)
      | .one (.omp id' _ _ _) => getN id (j + 1) n fun ls => f (.ali (.box id j) id' :: ls)
      | .one .dead => .fail
      | .one l => getN id (j + 1) n fun ls => f (l :: ls)
      | _ => .fail
/-- The leaves are a whole value of the type. -/
def loadB (ti : TI) (ls : List (Leaf Ω)) : Bool := and (Nat.beq ls.length ti.size) (or (isSt ti.kind) (Nat.beq ls.length 1))
def arithP (op : BinOp) (k : IntKind) (x y : Int) (f : AV Ω → Prg Ω) : Prg Ω :=
  match op with
  | .add => f (.one (.dat (.int k) (k.wrap (x + y))))
  | .sub => f (.one (.dat (.int k) (k.wrap (x - y))))
  | .mul => f (.one (.dat (.int k) (k.wrap (x * y))))
  | .quo => .ite (decide (y = 0)) .fail (f (.one (.dat (.int k) (k.wrap (x.tdiv y)))))
  | .rem => .ite (decide (y = 0)) .fail (f (.one (.dat (.int k) (x.tmod y))))
  | .eql => f (.one (.dat .bool (decide (x = y))))
  | .neq => f (.one (.dat .bool (!(decide (x = y)))))
  | .lss => f (.one (.dat .bool (decide (x < y))))
  | .leq => f (.one (.dat .bool (decide (x ≤ y))))
  | .gtr => f (.one (.dat .bool (decide (x > y))))
  | .geq => f (.one (.dat .bool (decide (x ≥ y))))
  | .shl => .ite (decide (0 ≤ y)) (f (.one (.dat (.int k) (k.wrap (x * 2 ^ (min y.toNat k.bits)))))) .fail
  | .shr => .ite (decide (0 ≤ y)) (f (.one (.dat (.int k) (x.fdiv (2 ^ (min y.toNat k.bits)))))) .fail
  | op => Prg.opt (bitsOf op k x y) fun z => f (.one (.dat (.int k) z))
def strP (op : BinOp) (x y : ByteArray) (f : AV Ω → Prg Ω) : Prg Ω :=
  match op with
  | .eql => f (.one (.dat .bool (strEq x y)))
  | .neq => f (.one (.dat .bool (!(strEq x y))))
  | .lss => f (.one (.dat .bool (strLt x y)))
  | .add => .ite (limB (x.size + y.size)) (f (.one (.dat .str (x ++ y)))) .fail
  | _ => .fail
def nilP (op : BinOp) (b : Bool) (f : AV Ω → Prg Ω) : Prg Ω :=
  match op with
  | .eql => f (.one (.dat .bool b))
  | .neq => f (.one (.dat .bool (!b)))
  | _ => .fail
def isNilV : AV Ω → Option Bool
  | .one .nilP => some true
  | .one (.ref _ _ _) => some false
  | .one (.eptr _ _) => some false
  | .one (.dat (.pt _) x) => some x.isNone
  | _ => none
def buildP (T : Tab) (fs : List (Nat × Nat)) : List (Nat × Operand) → List (Leaf Ω) → (List (Leaf Ω) → Prg Ω) → Prg Ω
  | [], ls, f => f ls
  | (j, x) :: r, ls, f => Prg.opt (fs[j]?) fun p => Prg.opt (T.get p.2) fun fi => opG x fun v => freeze x v fun u =>
      match and (fitsV u fi.size) (Nat.ble (p.1 + fi.size) ls.length) with
      | true => buildP T fs r (ls.take p.1 ++ leavesOf u ++ ls.drop (p.1 + fi.size)) f
      | false => .fail
def elemsP (e : Ty) : Nat → List (Nat × Operand) → (List (El e) → Prg Ω) → Prg Ω
  | _, [], f => f []
  | n, (j, x) :: r, f => match Nat.beq n j with
    | true => opG x fun v => freeze x v fun u => match fitsV u (width e) with
      | true => Prg.opt (packAll e (leavesOf u)) fun y => elemsP e (n + 1) r fun ys => f (y :: ys)
      | false => .fail
    | false => .fail
def slV (own : Bool) (id : Id) (e : Ty) (xs : List (El e)) : AV Ω := match own with | true => .one (.arr id e xs) | false => .one (.dat (.sl e) xs)
def putS (o : Oper) (own : Bool) (id : Id) (e : Ty) (xs : List (El e)) : Prg Ω := match o.dst with | some d => .done [(.tmp d, slV own id e xs)] | none => .fail
/-- Where an operand's owned value stands. -/
def ownLoc (o : Operand) (v : AV Ω) : Option (Loc × Id) :=
  match v, o with
  | .one (.ali l id), _ => some (l, id)
  | .one (.omp id _ _ _), .tmp t => some (.tmp t, id)
  | .one (.arr id _ _), .tmp t => some (.tmp t, id)
  | _, _ => none
/-- An owned map, to be written. -/
def mapG (o : Operand) (v : AV Ω) (f : Loc → Id → (k v : Ty) → List (El k × El v) → Prg Ω) : Prg Ω :=
  match ownLoc o v with
  | some (l, id) => .get l fun u => match u with
    | .one (.omp id' a b m) => (match idB id id' with | true => f l id' a b m | false => .fail)
    | _ => .fail
  | none => .fail
/-- The operation's type is the map's. -/
def mapT (ti : TI) (K V : Ty) (p : Prg Ω) : Prg Ω :=
  match ti.kind, ti.ty with
  | .mp _ _, .mp K' V' => (match and (K.beq K') (V.beq V') with | true => p | false => .fail)
  | _, _ => .fail
/-- An owned slice, to be written. -/
def arrG (o : Operand) (v : AV Ω) (f : Loc → Id → (e : Ty) → List (El e) → Prg Ω) : Prg Ω :=
  match ownLoc o v with
  | some (l, id) => .get l fun u => match u with
    | .one (.arr id' e xs) => (match idB id id' with | true => f l id' e xs | false => .fail)
    | _ => .fail
  | none => .fail
def optInt (o : Option Operand) (d : Int) (f : Int → Prg Ω) : Prg Ω := match o with | none => f d | some x => opG x fun v => intOf v f
def lookOut (ok : Bool) (V : Ty) (r : Option (El V)) : AV Ω :=
  match ok with
  | true => .tup [(rowB V, unpack V (r.getD (zeroEl V))), (false, [.dat .bool r.isSome])]
  | false => avOf (rowB V) (unpack V (r.getD (zeroEl V)))

/-! ### calls -/
def bothB (a b : Bool) : Bool := match a, b with | true, true => true | false, false => true | _, _ => false
/-- A variable's leaf, as its shape has it. -/
def leafLS (s : LS) (v : AV Ω) : Option DL :=
  match s, v with
  | .dat t, .one l => (packAll t [l]).map fun x => ⟨t, x⟩
  | .arr e, .one (.arr _ e' xs) => (cast? (.sl e') (.sl e) xs).map fun x => ⟨.sl e, x⟩
  | .arr e, .one .nilS => some ⟨.sl e, ([] : List (El e))⟩
  | .omp k v, .one (.omp _ k' v' m) => (cast? (.mp k' v') (.mp k v) m).map fun x => ⟨.mp k v, x⟩
  | _, _ => none
/-- What is handed over: data; an owned value that goes (it waits at 'goL'); an owned value that comes back; a variable, leaf by leaf. -/
inductive Pln where
  | d (x : DL) | t (id : Id) (s : LS) | m (l : Loc) (id : Id) (s : LS) | b (id : Id) (ls : List LS) | n
def goL (rc i p : Nat) : Loc := .comp (1000000 + rc * 1000 + i) p
def takeK (rc i p : Nat) (s : LS) (f : Pln → Prg Ω) (u : AV Ω) : Prg Ω :=
  match s, u with
  | .arr e, .one (.arr id e' xs) => Prg.opt (cast? (.sl e') (.sl e) xs) fun _ => .upd [(goL rc i p, .one (.arr id e' xs))] (f (.t id (.arr e)))
  | .arr e, .one .nilS => .upd [(goL rc i p, .one (.arr (rc, i, 2 + 2 * p) e []))] (f (.t (rc, i, 2 + 2 * p) (.arr e)))
  | .omp a b, .one (.omp id a' b' m) => Prg.opt (cast? (.mp a' b') (.mp a b) m) fun _ => .upd [(goL rc i p, .one (.omp id a' b' m))] (f (.t id (.omp a b)))
  | _, _ => .fail
def argP (sc : Bool) (rc i p : Nat) (q : PS) (o : Operand) (v : AV Ω) (f : Pln → Prg Ω) : Prg Ω :=
  match q with
  | .v (.dat t) => match sc with
    | true => borrow v fun u => match and (fitsV u (width t)) (bothB (aggV u) (rowB t)) with
      | true => Prg.opt (packAll t (leavesOf u)) fun x => f (.d ⟨t, x⟩)
      | false => .fail
    | false => freeze o v fun u => match and (fitsV u (width t)) (bothB (aggV u) (rowB t)) with
      | true => Prg.opt (packAll t (leavesOf u)) fun x => f (.d ⟨t, x⟩)
      | false => .fail
  | .v s => takeV o (rc, i, 1 + 2 * p) v (takeK rc i p s f)
  | .mu s => match s with
    | .arr _ => arrG o v fun l id e xs => f (.m l id s)
    | .omp _ _ => mapG o v fun l id a b m => f (.m l id s)
    | .dat _ => .fail
  | .ep t => match v with
    | .one (.eptr r y) => Prg.opt (packAll t (unpack (Ω := Ω) r y)) fun x => f (.d ⟨t, x⟩)
    | _ => .fail
  | .bx ls => match v with
    | .one (.ref id 0 n) => (match and (Nat.beq n ls.length) (Nat.blt 0 n) with | true => f (.b id ls) | false => .fail)
    | _ => .fail
  | .fn => match v with
    | .one .fnv => f .n
    | .one (.clo _ _) => f .n
    | _ => .fail
def argsP (sc : Bool) (rc i : Nat) : Nat → List PS → List Operand → (List Pln → Prg Ω) → Prg Ω
  | _, [], [], f => f []
  | p, q :: qs, o :: os, f => opG o fun v => argP sc rc i p q o v fun x => argsP sc rc i (p + 1) qs os fun xs => f (x :: xs)
  | _, _, _, _ => .fail
def boxL (id : Id) : Nat → Nat → List Loc
  | _, 0 => []
  | j, n + 1 => .box id j :: boxL id (j + 1) n
/-- The places of what is handed over. -/
def plnL (rc i : Nat) : Nat → List Pln → List Loc
  | _, [] => []
  | p, .d _ :: r => plnL rc i (p + 1) r
  | p, .n :: r => plnL rc i (p + 1) r
  | p, .t _ _ :: r => goL rc i p :: plnL rc i (p + 1) r
  | p, .m l _ _ :: r => l :: plnL rc i (p + 1) r
  | p, .b id ls :: r => boxL id 0 ls.length ++ plnL rc i (p + 1) r
def inL (l : Loc) : List Loc → Bool
  | [] => false
  | a :: r => match locB a l with | true => true | false => inL l r
def distL : List Loc → Bool
  | [] => true
  | a :: r => match inL a r with | true => false | false => distL r
def idV (id : Id) : AV Ω → Bool
  | .one (.arr id' _ _) => idB id id'
  | .one (.omp id' _ _ _) => idB id id'
  | _ => false
def readB (id : Id) : Nat → List LS → (List DL → Prg Ω) → Prg Ω
  | _, [], f => f []
  | j, s :: r, f => .get (.box id j) fun v => Prg.opt (leafLS s v) fun d => readB id (j + 1) r fun ds => f (d :: ds)
def readP (rc i p : Nat) (x : Pln) (f : List DL → Prg Ω) : Prg Ω :=
  match x with
  | .d x => f [x]
  | .t id s => .get (goL rc i p) fun v => match idV id v with | true => Prg.opt (leafLS s v) fun d => f [d] | false => .fail
  | .m l id s => .get l fun v => match idV id v with | true => Prg.opt (leafLS s v) fun d => f [d] | false => .fail
  | .b id ls => readB id 0 ls f
  | .n => f []
def readPs (rc i : Nat) : Nat → List Pln → (List DL → Prg Ω) → Prg Ω
  | _, [], f => f []
  | p, x :: r, f => readP rc i p x fun ds => readPs rc i (p + 1) r fun ds' => f (ds ++ ds')
/-- A leaf of its own. -/
def leafOf (id : Id) (s : LS) (d : DL) : Option (Leaf Ω) :=
  match s with
  | .dat t => (cast? d.t t d.x).bind fun x => (match unpack (Ω := Ω) t x with | [l] => some l | _ => none)
  | .arr e => (cast? d.t (.sl e) d.x).bind fun x => some (.arr id e x)
  | .omp k v => (cast? d.t (.mp k v) d.x).bind fun x => some (.omp id k v x)
/-- Leaves stand in a variable again (n: the number of the next new id). -/
def outB (rc i : Nat) (id : Id) : Nat → Nat → List LS → List DL → Option (List (Loc × AV Ω))
  | _, _, [], [] => some []
  | n, j, s :: r, d :: ds => (leafOf (rc, i, n) s d).bind fun x => (outB rc i id (n + 1) (j + 1) r ds).bind fun ws => some ((.box id j, .one x) :: ws)
  | _, _, _, _ => none
def outPs (rc i : Nat) : Nat → Nat → List Pln → List DL → Option (List (Loc × AV Ω))
  | _, _, [], [] => some []
  | n, p, .d _ :: r, ds => outPs rc i n (p + 1) r ds
  | n, p, .n :: r, ds => outPs rc i n (p + 1) r ds
  | n, p, .t _ _ :: r, ds => (outPs rc i n (p + 1) r ds).bind fun ws => some ((goL rc i p, .one .dead) :: ws)
  | n, p, .m l _ s :: r, d :: ds => (leafOf (rc, i, n) s d).bind fun x => (outPs rc i (n + 1) (p + 1) r ds).bind fun ws => some ((l, .one x) :: ws)
  | n, p, .b id ls :: r, ds => (outB rc i id n 0 ls (ds.take ls.length)).bind fun ws => (outPs rc i (n + ls.length) (p + 1) r (ds.drop ls.length)).bind fun ws' => some (ws ++ ws')
  | _, _, _, _ => none
structure Res (Ω : Type) where
  v : AV Ω
  al : AV Ω
  ws : List (Loc × AV Ω)
  n : Nat
/-- One result: as it stands at l; how it's looked at from elsewhere; the writes that go with it. -/
def resP (own : Bool) (l : Loc) (rc i n : Nat) (r : RS) (ds : List DL) : Option (Res Ω) :=
  match r, ds with
  | .v (.dat t), [d] => (cast? d.t t d.x).bind fun x => some ⟨avOf (rowB t) (unpack t x), avOf (rowB t) (unpack t x), [], n⟩
  | .v (.arr e), [d] => (cast? d.t (.sl e) d.x).bind fun x => (match own with
      | true => some ⟨.one (.arr (rc, i, n) e x), .one (.ali l (rc, i, n)), [], n + 1⟩
      | false => some ⟨.one (.dat (.sl e) x), .one (.dat (.sl e) x), [], n⟩)
  | .v (.omp k v), [d] => (cast? d.t (.mp k v) d.x).bind fun x => (match own with
      | true => some ⟨.one (.omp (rc, i, n) k v x), .one (.ali l (rc, i, n)), [], n + 1⟩
      | false => some ⟨.one (.dat (.mp k v) x), .one (.dat (.mp k v) x), [], n⟩)
  | .bx ls, ds => (outB rc i (rc, i, n) (n + 1) 0 ls ds).bind fun ws => some ⟨.one (.ref (rc, i, n) 0 ls.length), .one (.ref (rc, i, n) 0 ls.length), ws, n + 1 + ls.length⟩
  | _, _ => none
structure ResM (Ω : Type) where
  vs : List (Bool × List (Leaf Ω))
  ws : List (Loc × AV Ω)
  ds : List DL
  n : Nat
def resMany' (own d rc i : Nat) : Nat → Nat → List RS → List DL → Option (ResM Ω)
  | n, _, [], ds => some ⟨[], [], ds, n⟩
  | n, k, r :: rs, ds => (resP (own.testBit k) (.comp d k) rc i n r (ds.take r.tys.length)).bind fun x => (resMany' own d rc i x.n (k + 1) rs (ds.drop r.tys.length)).bind fun y =>
      some ⟨(aggV x.al, leavesOf x.al) :: y.vs, (.comp d k, x.v) :: x.ws ++ y.ws, y.ds, y.n⟩
def plainS : PS → Bool | .v (.dat _) | .ep _ => true | _ => false
def allB {α : Type} (f : α → Bool) : List α → Bool
  | [] => true
  | a :: r => match f a with | true => allB f r | false => false
/-- Does a call of it only look at what it gets? -/
def lookR : RS → Bool | .v (.dat t) => scalar t | _ => false
def lookS (s : Sig) : Bool := and (allB lookR s.res) (allB plainS s.pars)
def callR (sg : Sig) (own rc i : Nat) (dst : Option Nat) (n : Nat) (ps : List Pln) (ds : List DL) : Option (List (Loc × AV Ω)) :=
  match sg.res with
  | [] => (outPs rc i n 0 ps ds).bind fun ws => some ((match dst with | some d => [(.tmp d, .one .dead)] | none => []) ++ ws)
  | [r] => match dst with
    | some d => (resP (own.testBit 0) (.tmp d) rc i n r (ds.take r.tys.length)).bind fun x => (outPs rc i x.n 0 ps (ds.drop r.tys.length)).bind fun ws => some ((.tmp d, x.v) :: x.ws ++ ws)
    | none => (outPs rc i n 0 ps (ds.drop r.tys.length)).bind fun ws => some ws
  | rs => match dst with
    | some d => (resMany' own d rc i n 0 rs ds).bind fun y => (outPs rc i y.n 0 ps y.ds).bind fun ws => some ((.tmp d, .tup y.vs) :: y.ws ++ ws)
    | none => none
def dstL (dst : Option Nat) : List Loc := match dst with | some d => [.tmp d] | none => []
def callP (fn : Fun) (own : Nat) (rc i : Nat) (o : Oper) (args : List Operand) : Prg Ω :=
  argsP (lookS fn.sig) rc i 0 fn.sig.pars args fun ps => .ite (distL (dstL o.dst ++ plnL rc i 0 ps)) (readPs rc i 0 ps fun ds =>
    Prg.opt (mkTup fn.sig.ins ds) fun x => .bind (fn.f x) fun y =>
      Prg.opt (callR fn.sig own rc i o.dst (1 + 2 * fn.sig.pars.length) ps (unOut fn.sig.outs y)) fun ws => .done ws) .fail
def funGet {α : Type _} : List (Nat × α) → Nat → Option α
  | [], _ => none
  | (k, f) :: r, n => match Nat.beq k n with | true => some f | false => funGet r n

/-! ### closures -/
def capG : List Operand → (List (Id × Nat × Nat) → Prg Ω) → Prg Ω
  | [], f => f []
  | o :: os, f => opG o fun v => match v with
    | .one (.ref id off n) => capG os fun cs => f ((id, off, n) :: cs)
    | _ => .fail
/-- What is handed over with a closure: its variables. -/
def capsP : List (Id × Nat × Nat) → List PS → Option (List Pln)
  | [], [] => some []
  | c :: cs, .bx ls :: qs => (match and (Nat.beq c.2.1 0) (and (Nat.beq c.2.2 ls.length) (Nat.blt 0 c.2.2)) with
    | true => (capsP cs qs).bind fun r => some (.b c.1 ls :: r)
    | false => none)
  | _, _ => none
/-- A closure of the function's own, called. -/
def callC (fn : Fun) (own rc i : Nat) (o : Oper) (args : List Operand) (caps : List (Id × Nat × Nat)) : Prg Ω :=
  argsP false rc i 0 (fn.sig.pars.take args.length) args fun ps => Prg.opt (capsP caps (fn.sig.pars.drop args.length)) fun cs =>
    .ite (distL (dstL o.dst ++ plnL rc i 0 (ps ++ cs))) (readPs rc i 0 (ps ++ cs) fun ds => Prg.opt (mkTup fn.sig.ins ds) fun x => .bind (fn.f x) fun y =>
      Prg.opt (callR fn.sig own rc i o.dst (1 + 2 * fn.sig.pars.length) (ps ++ cs) (unOut fn.sig.outs y)) fun ws => .done ws) .fail
/-- The closure that came in, called. -/
def callV (cl : CloG Ω) (rc i : Nat) (o : Oper) (args : List Operand) : Prg Ω :=
  argsP false rc i 0 (cl.as.map fun t => PS.v (.dat t)) args fun ps => readPs rc i 0 ps fun ds =>
    Prg.opt (mkTup cl.as ds) fun x => .get .om fun u => match u, o.dst with
      | .one (.opq s), some d => .bind (cl.g s x) fun y => .done [(.tmp d, avOf (rowB cl.b) (unpack cl.b y.1)), (.om, .one (.opq y.2))]
      | _, _ => .fail
/-- What a function makes of its variables and of data. -/
def cloG (fn : Fun) (as : List Ty) (b : Ty) (cty : List Ty) (s : El (outTy cty)) (x : Tup as) : Option (El b × El (outTy cty)) :=
  (mkTup fn.sig.ins (unTup as x ++ unOut cty s)).bind fun z => (fn.f z).bind fun y => match unOut fn.sig.outs y with
    | d :: ds => (cast? d.t b d.x).bind fun r => (mkOut cty ds).bind fun s' => some (r, s')
    | [] => none
def cloW (cl : CloG Ω) (as : List Ty) (b : Ty) (s : Ω) (x : Tup as) : Option (El b × Ω) :=
  (mkTup cl.as (unTup as x)).bind fun x' => (cl.g s x').bind fun y => (cast? cl.b b y.1).bind fun r => some (r, y.2)
def datsB : List PS → List Ty → Bool
  | [], [] => true
  | .v (.dat t) :: qs, t' :: ts => (match t.beq t' with | true => datsB qs ts | false => false)
  | _, _ => false
def resB : List RS → Ty → Bool
  | [.v (.dat t)], b => t.beq b
  | _, _ => false
def fnOp : List PS → List Operand → Option Operand
  | .fn :: _, o :: _ => some o
  | _ :: qs, _ :: os => fnOp qs os
  | _, _ => none
def capTys (fn : Fun) (n : Nat) : List Ty := (fn.sig.pars.drop n).flatMap PS.tys
/-- A function that takes a closure, with one of the function's own. -/
def callHC (fn : Fun) (h : Hof) (own rc i : Nat) (o : Oper) (args : List Operand) (caps : List (Id × Nat × Nat)) : Prg Ω :=
  .ite (and (datsB (fn.sig.pars.take h.as.length) h.as) (resB fn.sig.res h.b)) (argsP false rc i 0 h.sig.pars args fun ps => Prg.opt (capsP caps (fn.sig.pars.drop h.as.length)) fun cs =>
    .ite (distL (dstL o.dst ++ plnL rc i 0 (ps ++ cs))) (readPs rc i 0 ps fun ds => readPs rc i h.sig.pars.length cs fun es => Prg.opt (mkTup h.sig.ins ds) fun x => Prg.opt (mkOut (capTys fn h.as.length) es) fun s =>
      .bind (h.f (El (outTy (capTys fn h.as.length))) (cloG fn h.as h.b (capTys fn h.as.length)) s x) fun y =>
        Prg.opt (callR h.sig own rc i o.dst (1 + 2 * h.sig.pars.length) (ps ++ cs) (unOut h.sig.outs y.1 ++ unOut (capTys fn h.as.length) y.2)) fun ws => .done ws) .fail) .fail
/-- There is one closure among the parameters. -/
def oneFn : List PS → Bool
  | [] => false
  | .fn :: r => allB (fun q => match q with | .fn => false | _ => true) r
  | _ :: r => oneFn r
def plainF : PS → Bool | .v (.dat _) => true | .ep _ => true | .fn => true | _ => false
/-- A function that takes a closure, with the one that came in: it only looks at what it gets. -/
def callHV (sc : Bool) (cl : CloG Ω) (h : Hof) (rc i : Nat) (o : Oper) (args : List Operand) : Prg Ω :=
  .ite (allB plainF h.sig.pars) (argsP sc rc i 0 h.sig.pars args fun ps => readPs rc i 0 ps fun ds => Prg.opt (mkTup h.sig.ins ds) fun x => .get .om fun u => match u, o.dst, h.sig.res with
      | .one (.opq s), some d, [.v (.dat t)] => .bind (h.f Ω (cloW cl h.as h.b) s x) fun y => (match unOut h.sig.outs y.1 with
        | [e] => Prg.opt (cast? e.t t e.x) fun z => .done [(.tmp d, avOf (rowB t) (unpack t z)), (.om, .one (.opq y.2))]
        | _ => .fail)
      | _, _, _ => .fail) .fail

/-! ### the operations. own: what is made here is owned by where it stands (else it is data) · frz: what is assigned or stored becomes data -/
def opP (T : Tab) (Φ : Env Ω) (own : Nat) (frz : Bool) (rc i : Nat) (o : Oper) : Prg Ω :=
  match o.op with
  | .move x => opG x fun v => putP o (copyV x v)
  | .assign x => opG x fun v => (match frz with | true => freeze x v fun u => putP o u | false => takeV x (rc, i, 0) v fun u => putP o u)
  | .pick c a b => opG c fun vc => boolOf vc fun x => .ite x (opG a fun v => putP o (copyV a v)) (opG b fun v => putP o (copyV b v))
  | .box t x => Prg.opt (T.get t) fun ti => opG x fun v => takeV x (rc, i, 1) v fun u =>
      (match fitsV u ti.size, o.dst with
       | true, some d => .done ((.tmp d, .one (.ref (rc, i, 0) 0 ti.size)) :: boxW (rc, i, 0) 0 (leavesOf u))
       | _, _ => .fail)
  | .alloc t => Prg.opt (T.get t) fun ti =>
      (match and (Nat.beq (zeroLeaf (Ω := Ω) ti.ty).length ti.size) (Nat.blt 0 ti.size), o.dst with
       | true, some d => .done ((.tmp d, .one (.ref (rc, i, 0) 0 ti.size)) :: boxW (rc, i, 0) 0 (zeroLeaf ti.ty))
       | _, _ => .fail)
  | .fieldAddr s x f => Prg.opt (T.get s) fun ti => (match ti.kind with
      | .st fs => Prg.opt (fs[f]?) fun p => opG x fun v => (match v with
        | .one (.ref b off n) => putP o (.one (.ref b (off + p.1) n))
        | .one (.aptr l id sz n off) => putP o (.one (.aptr l id sz n (off + p.1)))
        | .one (.eptr t y) => Prg.opt (T.get p.2) fun fi => Prg.opt (packAll fi.ty (((unpack (Ω := Ω) t y).drop p.1).take fi.size)) fun z => putP o (.one (.eptr fi.ty z))
        | _ => .fail)
      | _ => .fail)
  | .load t x => Prg.opt (T.get t) fun ti => opG x fun v => (match v with
      | .one (.ref b off _) => getN b off ti.size fun ls => (match loadB ti ls with | true => putP o (avOf (isSt ti.kind) ls) | false => .fail)
      | .one (.eptr r y) => (match loadB ti (unpack (Ω := Ω) r y) with
        | true => putP o (avOf (isSt ti.kind) (unpack r y))
        | false => .fail)
      | .one (.aptr l id sz n off) => .get l fun u => (match u with
        | .one (.arr id' e xs) => (match and (idB id id') (Nat.beq sz (width e)) with
          | true => .bind (idx xs n) fun y => (match loadB ti (((unpack (Ω := Ω) e y).drop off).take ti.size) with
            | true => putP o (avOf (isSt ti.kind) (((unpack e y).drop off).take ti.size))
            | false => .fail)
          | false => .fail)
        | _ => .fail)
      | _ => .fail)
  | .store t a x => Prg.opt (T.get t) fun ti => opG a fun va => (match va with
      | .one (.ref b off n) => opG x fun v => (match frz with
        | true => freeze x v fun u => (match and (fitsV u ti.size) (Nat.ble (off + ti.size) n) with | true => .done (boxW b off (leavesOf u)) | false => .fail)
        | false => takeV x (rc, i, 1) v fun u => (match and (fitsV u ti.size) (Nat.ble (off + ti.size) n) with | true => .done (boxW b off (leavesOf u)) | false => .fail))
      | .one (.aptr l id sz n off) => opG x fun v => freeze x v fun u => .get l fun w => (match w with
        | .one (.arr id' e xs) => (match and (idB id id') (and (Nat.beq sz (width e)) (Nat.ble (off + ti.size) (width e))), fitsV u ti.size with
          | true, true => .bind (idx xs n) fun y => Prg.opt (packAll e ((unpack e y).take off ++ leavesOf u ++ (unpack e y).drop (off + ti.size))) fun z =>
              .done [(l, .one (.arr id' e (xs.set n.toNat z)))]
          | _, _ => .fail)
        | _ => .fail)
      | _ => .fail)
  | .nilCheck x => opG x fun v => (match v with
      | .one (.ref b off n) => putP o (.one (.ref b off n))
      | .one (.eptr t y) => putP o (.one (.eptr t y))
      | .one (.dat (.pt t) y) => .bind y fun z => putP o (.one (.eptr t z))
      | _ => .fail)
  | .indexAddr t x ix => Prg.opt (T.get t) fun ti => (match ti.kind, ti.ty with
      | .sl _, .sl E => opG x fun v => opG ix fun w => intOf w fun n => (match v with
        | .one (.dat (.sl e) xs) => (match Nat.beq (width E) (width e) with | true => .bind (idx xs n) fun y => putP o (.one (.eptr e y)) | false => .fail)
        | v => arrG x v fun l id e xs => (match Nat.beq (width E) (width e) with | true => .bind (idx xs n) fun _ => putP o (.one (.aptr l id (width e) n 0)) | false => .fail))
      | _, _ => .fail)
  | .binOp op t x y _ => Prg.opt (T.get t) fun ti => opG x fun a => opG y fun b => (match ti.kind, a, b with
      | .int k, .one (.dat (.int k1) n), .one (.dat (.int k2) m) => (match and (Nat.beq (IK k1) (IK k)) (Nat.beq (IK k2) (IK k)) with | true => arithP op k n m fun v => putP o v | false => .fail)
      | .bool, .one (.dat .bool n), .one (.dat .bool m) => nilP op (n == m) fun v => putP o v
      | .str, .one (.dat .str n), .one (.dat .str m) => strP op n m fun v => putP o v
      | .ptr _, .one .nilP, v => Prg.opt (isNilV v) fun c => nilP op c fun v => putP o v
      | .ptr _, v, .one .nilP => Prg.opt (isNilV v) fun c => nilP op c fun v => putP o v
      | _, _, _ => .fail)
  | .unOp op _ x => opG x fun v => (match op, v with
      | .not, .one (.dat .bool b) => putP o (.one (.dat .bool (!b)))
      | .neg, .one (.dat (.int k) n) => putP o (.one (.dat (.int k) (k.wrap (0 - n))))
      | _, _ => .fail)
  | .convert s t x => Prg.opt (T.get s) fun si => Prg.opt (T.get t) fun ti => opG x fun v => (match si.kind, ti.kind, v with
      | .int _, .int k, .one (.dat (.int _) n) => putP o (.one (.dat (.int k) (k.wrap n)))
      | _, _, _ => .fail)
  | .build t parts => Prg.opt (T.get t) fun ti => (match ti.kind, ti.ty with
      | .st fs, .st _ => buildP T fs parts.toList (zeroLeaf ti.ty) fun ls => (match Nat.beq ls.length ti.size with | true => putP o (.agg ls) | false => .fail)
      | _, _ => .fail)
  | .buildSlice t n parts => Prg.opt (T.get t) fun ti => (match ti.kind, ti.ty with
      | .sl et, .sl e => (match Nat.beq n parts.size, Nat.ble (n * width e) 16777216 with
        | true, true => elemsP e 0 parts.toList fun ys => putS o (own.testBit 0) (rc, i, 0) e ys
        | _, _ => .fail)
      | _, _ => .fail)
  | .makeMap t none => Prg.opt (T.get t) fun ti => (match ti.kind, ti.ty, o.dst with
      | .mp _ _, .mp k v, some d => .done [(.tmp d, .one (.omp (rc, i, 0) k v []))]
      | _, _, _ => .fail)
  | .makeSlice t l c => Prg.opt (T.get t) fun ti => (match ti.kind, ti.ty with
      | .sl _, .sl e => opG l fun vl => intOf vl fun n => opG c fun vc => intOf vc fun m =>
          .ite (and (decide (0 ≤ n)) (and (decide (n ≤ m)) (limB m.toNat))) (putS o (own.testBit 0) (rc, i, 0) e (List.replicate n.toNat (zeroEl e))) .fail
      | _, _ => .fail)
  | .insert t m k x => Prg.opt (T.get t) fun ti => opG m fun vm => opG k fun vk => opG x fun vx => freeze x vx fun u => mapG m vm fun l id K V mm => mapT ti K V <|
      Prg.opt (packAll K (keyL vk)) fun kk => (match and (fitsV u (width V)) (aggV u == rowB V) with
      | true => Prg.opt (packAll V (leavesOf u)) fun vv => .done [(l, .one (.omp (rc, i, 0) K V (upd mm kk vv)))]
      | false => .fail)
  | .mapUpdate t m k x => Prg.opt (T.get t) fun ti => opG m fun vm => opG k fun vk => opG x fun vx => freeze x vx fun u => mapG m vm fun l id K V mm => mapT ti K V <|
      Prg.opt (packAll K (keyL vk)) fun kk => (match and (fitsV u (width V)) (aggV u == rowB V) with
      | true => Prg.opt (packAll V (leavesOf u)) fun vv => .done [(l, .one (.omp (rc, i, 0) K V (upd mm kk vv)))]
      | false => .fail)
  | .lookup t x ix ok => Prg.opt (T.get t) fun ti => (match ti.kind, ti.ty with
      | .mp _ _, .mp K V => opG x fun vx => opG ix fun vk => Prg.opt (packAll K (keyL vk)) fun kk => borrow vx fun u => (match u with
        | .one .nilM => putP o (lookOut ok V none)
        | .one (.dat (.mp K' V') mm) => Prg.opt (cast? (.mp K' V') (.mp K V) mm) fun mm' => putP o (lookOut ok V (look mm' kk))
        | _ => .fail)
      | _, _ => .fail)
  | .extract x j => opG x fun v => (match v with | .tup vs => Prg.opt (vs[j]?) fun p => putP o (avOf p.1 p.2) | _ => .fail)
  | .slice t x lo hi none => Prg.opt (T.get t) fun ti => (match ti.kind, ti.ty with
      | .sl _, .sl E => opG x fun v => (match v with
        | .one (.dat (.sl e) xs) => (match Nat.beq (width E) (width e) with
          | true => optInt lo 0 fun a => optInt hi (xs.length : Int) fun b => .bind (cut xs a b) fun ys => putP o (.one (.dat (.sl e) ys))
          | false => .fail)
        | v => arrG x v fun l id e xs => (match Nat.beq (width E) (width e) with
          | true => optInt lo 0 fun a => optInt hi (xs.length : Int) fun b => .bind (cut xs a b) fun ys => putP o (.one (.avw l id (width e) a b))
          | false => .fail))
      | _, _ => .fail)
  | .makeFunc (.func fn) first captured => (match first.toList with
      | [] => capG captured.toList fun cs => putP o (.one (.clo fn cs))
      | _ => .fail)
  | .call c => (match c.callee with
    | .builtin .len => (match c.args.toList, c.argTypes.toList with
      | [x], [t] => Prg.opt (T.get t) fun ti => opG x fun v => borrow v fun u => (match ti.kind, u with
        | .sl _, .one (.dat (.sl _) xs) => putP o (.one (.dat (.int .i64) (xs.length : Int)))
        | .mp _ _, .one (.dat (.mp _ _) xs) => putP o (.one (.dat (.int .i64) (xs.length : Int)))
        | .str, .one (.dat .str s) => putP o (.one (.dat (.int .i64) (s.size : Int)))
        | .sl _, .one .nilS => putP o (.one (.dat (.int .i64) (0 : Int)))
        | .mp _ _, .one .nilM => putP o (.one (.dat (.int .i64) (0 : Int)))
        | _, _ => .fail)
      | _, _ => .fail)
    | .builtin .append => (match c.args.toList, c.argTypes.toList with
      | [x, y], [t, t'] => Prg.opt (T.get t) fun ti => opG x fun v => opG y fun w => borrow w fun u => (match ti.kind, ti.ty, u with
        | .sl _, .sl E, .one (.dat (.sl e) ys) => (match and (Nat.beq t t') (Nat.beq (width E) (width e)) with
          | true => takeV x (rc, i, 1) v fun a => (match a with
            | .one .nilS => .ite (limB ys.length) (putS o (own.testBit 0) (rc, i, 0) e ys) .fail
            | .one (.arr _ e' xs) => Prg.opt (cast? (.sl e') (.sl e) xs) fun xs' => .ite (limB (xs'.length + ys.length)) (putS o (own.testBit 0) (rc, i, 0) e (xs' ++ ys)) .fail
            | _ => .fail)
          | false => .fail)
        | _, _, _ => .fail)
      | _, _ => .fail)
    | .builtin .clear => (match c.args.toList, c.argTypes.toList, o.dst with
      | [x], [t], none => Prg.opt (T.get t) fun ti => (match ti.kind, ti.ty with
        | .sl _, .sl E => opG x fun v => (match v with
          | .one (.avw l id sz lo hi) => .get l fun u => (match u with
            | .one (.arr id' e xs) => (match and (idB id id') (and (Nat.beq sz (width e)) (E.beq e)) with
              | true => .bind (cut xs lo hi) fun ys => .done [(l, .one (.arr id' e (xs.take lo.toNat ++ List.replicate ys.length (zeroEl e) ++ xs.drop hi.toNat)))]
              | false => .fail)
            | _ => .fail)
          | _ => .fail)
        | _, _ => .fail)
      | _, _, _ => .fail)
    | .builtin .max => (match c.args.toList with
      | [x, y] => opG x fun v => opG y fun w => (match v, w with | .one (.dat (.int k) a), .one (.dat (.int _) b) => putP o (.one (.dat (.int k) (imax a b))) | _, _ => .fail)
      | _ => .fail)
    | .builtin .min => (match c.args.toList with
      | [x, y] => opG x fun v => opG y fun w => (match v, w with | .one (.dat (.int k) a), .one (.dat (.int _) b) => putP o (.one (.dat (.int k) (imin a b))) | _, _ => .fail)
      | _ => .fail)
    | .value (.func f) => (match funGet Φ.funs f with
      | some fn => callP fn own rc i o c.args.toList
      | none => Prg.opt (funGet Φ.hofs f) fun h => .ite (oneFn h.sig.pars) (Prg.opt (fnOp h.sig.pars c.args.toList) fun x => opG x fun v => (match v, Φ.clo with
        | .one (.clo g caps), _ => Prg.opt (funGet Φ.funs g) fun fn => callHC fn h own rc i o c.args.toList caps
        | .one .fnv, some cl => callHV (and (allB scalar h.as) (allB lookR h.sig.res)) cl h rc i o c.args.toList
        | _, _ => .fail)) .fail)
    | .value (.tmp t) => opG (.tmp t) fun v => (match v, Φ.clo with
      | .one (.clo g caps), _ => Prg.opt (funGet Φ.funs g) fun fn => callC fn own rc i o c.args.toList caps
      | .one .fnv, some cl => callV cl rc i o c.args.toList
      | _, _ => .fail)
    | _ => .fail)
  | _ => .fail
end
end Go.Proofs.Ytbgefphoochgcaa.FE
/- FE, part 3: regions, code, functions. -/
namespace Go.Proofs.Ytbgefphoochgcaa.FE
open Go
set_option linter.unusedVariables false
set_option linter.unusedSimpArgs false
section
variable {Ω : Type}

/-! ### regions -/
structure LogRow where
  i : Nat
  rs : List Loc
  ws : List Loc
def apartL : List Loc → List Loc → Bool
  | [], _ => true
  | a :: r, b => match inL a b with | true => false | false => apartL r b
/-- Two operations may change places. -/
def apartR (x y : LogRow) : Bool := and (apartL x.ws y.rs) (and (apartL x.ws y.ws) (apartL x.rs y.ws))
def orderedB (bef : Array Nat) (i j : Nat) : Bool := or ((bef.getD i 0).testBit j) ((bef.getD j 0).testBit i)
def indep1 (bef : Array Nat) (x : LogRow) : List LogRow → Bool
  | [] => true
  | y :: r => match or (orderedB bef x.i y.i) (apartR x y) with | true => indep1 bef x r | false => false
def indepAll (bef : Array Nat) : List LogRow → Bool
  | [] => true
  | x :: r => match indep1 bef x r with | true => indepAll bef r | false => false
/-- The operations' edges lead back. -/
def backE (i : Nat) : List Edge → Bool
  | [] => true
  | e :: r => match or (!(Region.binds .any e)) (Nat.blt e.on i) with | true => backE i r | false => false
def backB : Nat → List Oper → Bool
  | _, [] => true
  | i, o :: r => match backE i o.after.toList with | true => backB (i + 1) r | false => false
inductive LSpec where
  | tmp (t : Nat) | bx (t j : Nat)
abbrev SL := List (LSpec × LS)
structure Join where
  sh : SL
  ex : Option (Nat × SL)
structure Hints where
  own : List (Nat × Nat × Nat)
  frz : List (Nat × Nat)
  loops : List (Nat × SL)
  joins : List (Nat × Join)
def ownOf : List (Nat × Nat × Nat) → Nat → Nat → Nat
  | [], _, _ => 0
  | (a, b, m) :: r, x, y => match and (Nat.beq a x) (Nat.beq b y) with | true => m | false => ownOf r x y
def frzOf : List (Nat × Nat) → Nat → Nat → Bool
  | [], _, _ => false
  | (a, b) :: r, x, y => match and (Nat.beq a x) (Nat.beq b y) with | true => true | false => frzOf r x y
/-- An operation that is not run: what it would give is undefined (the empty tuple). -/
def undW (o : Oper) : List (Loc × AV Ω) := match o.dst with | some d => [(.tmp d, .tup [])] | none => []
/-- The operations of a region, in the text's order; what each read and wrote is noted. -/
def evOps {R : Type} (T : Tab) (Φ : Env Ω) (H : Hints) (rid rc : Nat) (all : Array Oper) : List Oper → Nat → S Ω → List LogRow → (S Ω → List LogRow → Option R) → Option R
  | [], _, st, log, k => k st log
  | o :: r, i, st, log, k =>
    match o.guard with
    | none => (opP T Φ (ownOf H.own rid i) (frzOf H.frz rid i) rc i o).run st [] fun rs ws => evOps T Φ H rid rc all r (i + 1) (ws ++ st) (⟨i, rs, ws.map (·.1)⟩ :: log) k
    | some (g, want) => match (all[g]?).bind (·.dst) with
      | none => none
      | some gt => match st.get (.tmp gt) with
        | .one (.dat .bool b) => match b with
          | true => match want with
            | true => (opP T Φ (ownOf H.own rid i) (frzOf H.frz rid i) rc i o).run ((.tmp gt, .one (.dat .bool true)) :: st) [.tmp gt] fun rs ws => evOps T Φ H rid rc all r (i + 1) (ws ++ (.tmp gt, .one (.dat .bool true)) :: st) (⟨i, rs, ws.map (·.1)⟩ :: log) k
            | false => evOps T Φ H rid rc all r (i + 1) (undW o ++ (.tmp gt, .one (.dat .bool true)) :: st) (⟨i, [.tmp gt], (undW (Ω := Ω) o).map (·.1)⟩ :: log) k
          | false => match want with
            | false => (opP T Φ (ownOf H.own rid i) (frzOf H.frz rid i) rc i o).run ((.tmp gt, .one (.dat .bool false)) :: st) [.tmp gt] fun rs ws => evOps T Φ H rid rc all r (i + 1) (ws ++ (.tmp gt, .one (.dat .bool false)) :: st) (⟨i, rs, ws.map (·.1)⟩ :: log) k
            | true => evOps T Φ H rid rc all r (i + 1) (undW o ++ (.tmp gt, .one (.dat .bool false)) :: st) (⟨i, [.tmp gt], (undW (Ω := Ω) o).map (·.1)⟩ :: log) k
        -- the guard's own operation did not run: nor does this one
        | .tup [] => evOps T Φ H rid rc all r (i + 1) (undW o ++ st) (⟨i, [.tmp gt], (undW (Ω := Ω) o).map (·.1)⟩ :: log) k
        | _ => none

/-! ### shapes -/
def resolve (st : S Ω) : LSpec → Option Loc
  | .tmp t => some (.tmp t)
  | .bx t j => match st.get (.tmp t) with | .one (.ref id off _) => some (.box id (off + j)) | _ => none
def resolveAll (st : S Ω) : SL → Option (List (Loc × LS))
  | [] => some []
  | (p, s) :: r => (resolve st p).bind fun l => (resolveAll st r).bind fun ls => some ((l, s) :: ls)
def slotLS (s : LS) (v : AV Ω) : Option DL :=
  match s with
  | .dat t => (match and (sizedV v) (bothB (aggV v) (rowB t)) with | true => (packAll t (leavesOf v)).map fun x => ⟨t, x⟩ | false => none)
  | s => leafLS s v
def slots (st : S Ω) : List (Loc × LS) → Option (List DL)
  | [] => some []
  | (l, s) :: r => (slotLS s (st.get l)).bind fun d => (slots st r).bind fun ds => some (d :: ds)
def shTys : List (Loc × LS) → List Ty := List.map fun p => p.2.ty
def packS (st : S Ω) (ls : List (Loc × LS)) : Option (El (outTy (shTys ls))) := (slots st ls).bind (mkOut (shTys ls))
def slotV (id : Id) (s : LS) (d : DL) : AV Ω :=
  match s with
  | .dat t => match cast? d.t t d.x with | some x => avOf (rowB t) (unpack t x) | none => .one .dead
  | .arr e => match cast? d.t (.sl e) d.x with | some x => .one (.arr id e x) | none => .one .dead
  | .omp k v => match cast? d.t (.mp k v) d.x with | some x => .one (.omp id k v x) | none => .one .dead
def unslots (rc : Nat) : Nat → List (Loc × LS) → List DL → S Ω
  | n, (l, s) :: r, d :: ds => (l, slotV (rc, 1, n) s d) :: unslots rc (n + 1) r ds
  | _, _, _ => []
def unpackS (rc : Nat) (ls : List (Loc × LS)) (x : El (outTy (shTys ls))) : S Ω := unslots rc 0 ls (unOut (shTys ls) x)
@[reducible] def LT (hof : Bool) (Ω : Type) (τ : Ty) : Type := match hof with | true => El τ × Ω | false => El τ
def packH (hof : Bool) (st : S Ω) (ls : List (Loc × LS)) : Option (LT hof Ω (outTy (shTys ls))) :=
  match hof with
  | false => packS st ls
  | true => match st.get .om with | .one (.opq s) => (packS st ls).bind fun x => some (x, s) | _ => none
def unpackH (hof : Bool) (rc : Nat) (ls : List (Loc × LS)) (x : LT hof Ω (outTy (shTys ls))) : S Ω :=
  match hof, x with
  | false, x => unpackS rc ls x
  | true, x => (.om, .one (.opq x.2)) :: unpackS rc ls x.1
inductive LO (α γ ρ : Type) where
  | out (x : α) | ex (y : γ) | ret (r : ρ)
def LO.elim {α γ ρ β : Type} (o : LO α γ ρ) (f : α → β) (g : γ → β) (h : ρ → β) : β := match o with | .out x => f x | .ex y => g y | .ret r => h r
def iter {α β : Type} (step : (α → Option β) → α → Option β) : Nat → α → Option β
  | 0, _ => none
  | k + 1, x => step (iter step k) x

/-! ### code -/
def firstR : Code → Option Nat
  | .region i _ _ => some i
  | .seq a b => match firstR a with | some i => some i | none => firstR b
  | .cond _ a b => match firstR a with | some i => some i | none => firstR b
  | .block _ a | .loop a | .scope a => firstR a
  | _ => none
def findH {α : Type} : List (Nat × α) → Nat → Option α
  | [], _ => none
  | (k, s) :: r, n => match Nat.beq k n with | true => some s | false => findH r n
def dsts : Code → List Nat
  | .region _ ops _ => ops.toList.filterMap (·.dst)
  | .seq a b => dsts a ++ dsts b
  | .cond (.tmp t) a b => t :: (dsts a ++ dsts b)
  | .cond _ a b => dsts a ++ dsts b
  | .block _ a | .loop a | .scope a => dsts a
  | _ => []
def kill (c : Code) (st : S Ω) : S Ω := (dsts c).map (fun d => (Loc.tmp d, AV.one .dead)) ++ st
/-- What was written since is kept, or does not count behind. -/
def deadV : AV Ω → Bool | .one .dead => true | _ => false
def sinceB (om : Bool) (ls : List (Loc × LS)) (base : S Ω) : List (Loc × AV Ω) → Bool
  | [] => true
  | p :: r => match or (or (inL p.1 (ls.map (·.1))) (deadV (S.get base p.1))) (and om (locB p.1 .om)) with | true => sinceB om ls base r | false => false
def sinceS (st' st0 : S Ω) : S Ω := st'.take (st'.length - st0.length)
def setC (c : Operand) (b : Bool) (st : S Ω) : S Ω := match c with | .tmp t => (.tmp t, .one (.dat .bool b)) :: st | _ => st
def condV (st : S Ω) (c : Operand) : Option Bool :=
  match c with
  | .tmp t => match st.get (.tmp t) with | .one (.dat .bool b) => some b | _ => none
  | .const (.bool b) => some b
  | _ => none
def ev (T : Tab) (Φ : Env Ω) (H : Hints) (fuel : Nat) (hof : Bool) {ρ : Type} (res : Nat → S Ω → Option ρ) :
    (R : Type) → (c : Code) → (rc : Nat) → (st : S Ω) → (norm : Nat → S Ω → Option R) → (exit : Nat → Nat → S Ω → Option R) → (ret : ρ → Option R) → Option R
  | R, .skip, rc, st, n, x, r => n rc st
  | R, .region i ops draw, rc, st, n, x, r => evOps T Φ H i rc ops ops.toList 0 st [] fun st' log =>
      (match draw with
       | false => n (rc + 1) st'
       | true => match and (backB 0 ops.toList) (indepAll (Region.before ops) log) with | true => n (rc + 1) st' | false => none)
  | R, .seq a b, rc, st, n, x, r =>
    match (firstR b).bind (findH H.joins) with
    | none => ev T Φ H fuel hof res R a rc st (fun rc' st' => ev T Φ H fuel hof res R b rc' st' n x r) x r
    | some J => (resolveAll st J.sh).bind fun sh => (match J.ex with | some (_, s) => resolveAll st s | none => some []).bind fun shx =>
      (ev T Φ H fuel hof res (LO (LT hof Ω (outTy (shTys sh))) (LT hof Ω (outTy (shTys shx))) ρ) a rc st
        (fun _ st' => match sinceB hof sh (kill a st) (sinceS st' st) with | true => (packH hof st' sh).bind fun y => some (.out y) | false => none)
        (fun e _ st' => match J.ex with
          | some (e', _) => (match and (Nat.beq e e') (sinceB hof shx (kill a st) (sinceS st' st)) with | true => (packH hof st' shx).bind fun y => some (.ex y) | false => none)
          | none => none)
        (fun y => some (.ret y))).bind fun o =>
      o.elim (fun y => ev T Φ H fuel hof res R b (rc + 1) (unpackH hof rc sh y ++ kill a st) n x r)
        (fun y => match J.ex with | some (e, _) => x e (rc + 1) (unpackH hof rc shx y ++ kill a st) | none => none) r
  | R, .cond c a b, rc, st, n, x, r => (condV st c).bind fun t => match t with
    | true => ev T Φ H fuel hof res R a rc (setC c true st) n x r
    | false => ev T Φ H fuel hof res R b rc (setC c false st) n x r
  | R, .block i (.loop body), rc, st, n, x, r =>
    match (firstR body).bind (findH H.loops) with
    | none => none
    | some sl => (resolveAll st sl).bind fun sh => (packH hof st sh).bind fun y0 =>
      (iter (fun self y => ev T Φ H fuel hof res (LO (LT hof Ω (outTy (shTys sh))) Unit ρ) body (rc + 1) (unpackH hof rc sh y ++ kill body st)
          (fun _ st' => match sinceB hof sh (kill body st) (sinceS st' (unpackH hof rc sh y ++ kill body st)) with | true => (packH hof st' sh).bind self | false => none)
          (fun e _ st' => match and (Nat.beq e i) (sinceB hof sh (kill body st) (sinceS st' (unpackH hof rc sh y ++ kill body st))) with | true => (packH hof st' sh).bind fun y => some (.out y) | false => none)
          (fun y => some (.ret y))) fuel y0).bind fun o =>
        o.elim (fun y => n (rc + 1) (unpackH hof rc sh y ++ kill body st)) (fun _ => none) r
  | R, .block i a, rc, st, n, x, r => ev T Φ H fuel hof res R a rc st n (fun e rc' st' => match Nat.beq e i with | true => n rc' st' | false => x e rc' st') r
  | R, .exit i, rc, st, n, x, r => x i rc st
  | R, .ret, rc, st, n, x, r => (res rc st).bind r
  | _, _, _, _, _, _, _ => none
termination_by structural _ c => c

/-! ### functions -/
/-- The places of the parameters, with their data. -/
def boxS (id : Id) : Nat → List LS → List (Loc × LS)
  | _, [] => []
  | j, s :: r => (.box id j, s) :: boxS id (j + 1) r
def parL : Nat → List PS → List (Loc × LS)
  | _, [] => []
  | p, .v s :: r => (.tmp p, s) :: parL (p + 1) r
  | p, .mu s :: r => (.tmp p, s) :: parL (p + 1) r
  | p, .bx ls :: r => boxS (0, 0, p) 0 ls ++ parL (p + 1) r
  | p, .ep _ :: r => parL (p + 1) r
  | p, .fn :: r => parL (p + 1) r
def parD : List PS → List DL → List DL
  | [], _ => []
  | .v _ :: r, ds => ds.take 1 ++ parD r (ds.drop 1)
  | .mu _ :: r, ds => ds.take 1 ++ parD r (ds.drop 1)
  | .bx ls :: r, ds => ds.take ls.length ++ parD r (ds.drop ls.length)
  | .ep _ :: r, ds => parD r (ds.drop 1)
  | .fn :: r, ds => parD r ds
def epV (t : Ty) (ds : List DL) : AV Ω := match ds with | d :: _ => (match cast? d.t t d.x with | some x => .one (.eptr t x) | none => .one .dead) | [] => .one .dead
def parR : Nat → List PS → List DL → S Ω
  | _, [], _ => []
  | p, .v _ :: r, ds => parR (p + 1) r (ds.drop 1)
  | p, .mu _ :: r, ds => parR (p + 1) r (ds.drop 1)
  | p, .ep t :: r, ds => (.tmp p, epV t ds) :: parR (p + 1) r (ds.drop 1)
  | p, .bx ls :: r, ds => (.tmp p, .one (.ref (0, 0, p) 0 ls.length)) :: parR (p + 1) r (ds.drop ls.length)
  | p, .fn :: r, ds => (.tmp p, .one .fnv) :: parR (p + 1) r ds
/-- The state at the begin: the parameters. -/
def parS (ps : List PS) (ds : List DL) : S Ω := unslots 0 0 (parL 0 ps) (parD ps ds) ++ parR 0 ps ds
def resQ : RS → PS | .v s => .v s | .bx ls => .bx ls
/-- The parameters that come back. -/
def outQ : Nat → List PS → List (Nat × PS)
  | _, [] => []
  | p, .mu s :: r => (p, .mu s) :: outQ (p + 1) r
  | p, .bx ls :: r => (p, .bx ls) :: outQ (p + 1) r
  | p, .v _ :: r => outQ (p + 1) r
  | p, .ep _ :: r => outQ (p + 1) r
  | p, .fn :: r => outQ (p + 1) r
/-- Where a result is to be had: a temporary, or a variable. -/
inductive Src where
  | op (o : Operand) | cell (t ty : Nat)
def srcG (T : Tab) (s : Src) (f : Operand → AV Ω → Prg Ω) : Prg Ω :=
  match s with
  | .op o => opG o fun v => f o v
  | .cell t ty => Prg.opt (T.get ty) fun ti => .get (.tmp t) fun v => match v with
    | .one (.ref b off _) => getN b off ti.size fun ls => (match loadB ti ls with | true => f (.const (.bool true)) (avOf (isSt ti.kind) ls) | false => .fail)
    | _ => .fail
def argsS (T : Tab) (sc : Bool) (rc i : Nat) : Nat → List PS → List Src → (List Pln → Prg Ω) → Prg Ω
  | _, [], [], f => f []
  | p, q :: qs, o :: os, f => srcG T o fun x v => argP sc rc i p q x v fun x => argsS T sc rc i (p + 1) qs os fun xs => f (x :: xs)
  | _, _, _, _ => .fail
def resS : ResultVar → Src | .tmp t => .op (.tmp t) | .cell t ty => .cell t ty
def resAll (T : Tab) (sg : Sig) (rv : List ResultVar) (rc : Nat) (st : S Ω) : Option (El (outTy sg.outs)) :=
  match Nat.beq rv.length sg.res.length with
  | false => none
  | true => (argsS T false rc 0 0 (sg.res.map resQ ++ (outQ 0 sg.pars).map (·.2)) (rv.map resS ++ (outQ 0 sg.pars).map fun q => Src.op (.tmp q.1)) fun xs =>
        .ite (distL (plnL rc 0 0 xs)) (readPs rc 0 0 xs fun ds => Prg.opt (mkOut sg.outs ds) fun y => .done [(.om, .one (.dat (outTy sg.outs) y))]) .fail).run st [] fun _ ws => match ws with
          | (_, .one (.dat t y)) :: _ => cast? t (outTy sg.outs) y
          | _ => none
/-- A function without a closure among its parameters. -/
def evFn (T : Tab) (Φ : Env Unit) (H : Hints) (fuel : Nat) (sg : Sig) (f : Func) (x : Tup sg.ins) : Option (El (outTy sg.outs)) :=
  match f.body with
  | some c => ev (Ω := Unit) T Φ H fuel false (resAll T sg f.results.toList) (El (outTy sg.outs)) c 1 (parS sg.pars (unTup sg.ins x))
      (fun rc st => resAll T sg f.results.toList rc st) (fun _ _ _ => none) (fun y => some y)
  | none => none
def resAllH (T : Tab) (sg : Sig) (rv : List ResultVar) (rc : Nat) (st : S Ω) : Option (El (outTy sg.outs) × Ω) :=
  (resAll T sg rv rc st).bind fun y => match st.get .om with | .one (.opq s) => some (y, s) | _ => none
/-- A function with a closure among its parameters, the closure at a state. -/
def evFnH (T : Tab) (Φ : Env Ω) (H : Hints) (fuel : Nat) (sg : Sig) (f : Func) (s : Ω) (x : Tup sg.ins) : Option (El (outTy sg.outs) × Ω) :=
  match f.body with
  | some c => ev T Φ H fuel true (resAllH T sg f.results.toList) (El (outTy sg.outs) × Ω) c 1 ((.om, .one (.opq s)) :: parS sg.pars (unTup sg.ins x))
      (fun rc st => resAllH T sg f.results.toList rc st) (fun _ _ _ => none) (fun y => some y)
  | none => none
end
end Go.Proofs.Ytbgefphoochgcaa.FE
/- FE, part 4: what a state stands for in memory; what a step of memory leaves. -/
namespace Go.Proofs.Ytbgefphoochgcaa.FE
open Go
set_option linter.unusedVariables false
set_option linter.unusedSimpArgs false

theorem idB_iff {a b : Id} : idB a b = true ↔ a = b := by
  obtain ⟨a1, a2, a3⟩ := a; obtain ⟨b1, b2, b3⟩ := b
  simp [idB, Nat.beq_eq]
theorem locB_iff {a b : Loc} : locB a b = true ↔ a = b := by
  cases a <;> cases b <;> simp [locB, Nat.beq_eq, idB_iff]
theorem locB_self (a : Loc) : locB a a = true := locB_iff.2 rfl
theorem locB_ne {a b : Loc} (h : a ≠ b) : locB a b = false := by
  cases e : locB a b
  · rfl
  · exact absurd (locB_iff.1 e) h

section
variable {Ω : Type}
theorem inL_iff {l : Loc} : ∀ {ls : List Loc}, inL l ls = true ↔ l ∈ ls
  | [] => by simp [inL]
  | a :: r => by
    unfold inL
    by_cases h : a = l
    · subst h; simp [locB_self]
    · simp only [locB_ne h]
      rw [inL_iff, List.mem_cons]
      exact ⟨.inr, fun h' => h'.resolve_left (fun e => h e.symm)⟩
theorem get_append {ws st : S Ω} {l : Loc} : S.get (ws ++ st) l = if inL l (ws.map (·.1)) then S.get ws l else st.get l := by
  induction ws with
  | nil => simp [inL]
  | cons p r ih =>
    obtain ⟨a, v⟩ := p
    simp only [List.cons_append, S.get, List.map_cons, inL]
    by_cases h : a = l
    · subst h; simp [locB_self]
    · simp only [locB_ne h]; exact ih
theorem get_in {ws st : S Ω} {l : Loc} (h : inL l (ws.map (·.1)) = true) : S.get (ws ++ st) l = S.get ws l := by rw [get_append, if_pos h]
theorem get_out {ws st : S Ω} {l : Loc} (h : inL l (ws.map (·.1)) = false) : S.get (ws ++ st) l = st.get l := by rw [get_append, if_neg (by simp [h])]

inductive All2 {α β : Type} (R : α → β → Prop) : List α → List β → Prop where
  | nil : All2 R [] []
  | cons {a b as bs} (h : R a b) (t : All2 R as bs) : All2 R (a :: as) (b :: bs)
theorem All2.mono {α β : Type} {R Q : α → β → Prop} (h : ∀ a b, R a b → Q a b) {as : List α} {bs : List β} (t : All2 R as bs) : All2 Q as bs := by
  induction t with
  | nil => exact .nil
  | cons x _ ih => exact .cons (h _ _ x) ih
theorem All2.length {α β : Type} {R : α → β → Prop} {as : List α} {bs : List β} (t : All2 R as bs) : as.length = bs.length := by
  induction t with
  | nil => rfl
  | cons _ _ ih => simp [ih]
theorem All2.append {α β : Type} {R : α → β → Prop} {as as' : List α} {bs bs' : List β} (t : All2 R as bs) (u : All2 R as' bs') : All2 R (as ++ as') (bs ++ bs') := by
  induction t with
  | nil => exact u
  | cons x _ ih => exact .cons x ih
theorem All2.take {α β : Type} {R : α → β → Prop} {as : List α} {bs : List β} (t : All2 R as bs) (n : Nat) : All2 R (as.take n) (bs.take n) := by
  induction t generalizing n with
  | nil => simp; exact .nil
  | cons x _ ih => cases n with
    | zero => exact .nil
    | succ n => exact .cons x (ih n)
theorem All2.drop {α β : Type} {R : α → β → Prop} {as : List α} {bs : List β} (t : All2 R as bs) (n : Nat) : All2 R (as.drop n) (bs.drop n) := by
  induction t generalizing n with
  | nil => simp; exact .nil
  | cons x t ih => cases n with
    | zero => exact .cons x t
    | succ n => exact ih n
theorem All2.get {α β : Type} {R : α → β → Prop} {as : List α} {bs : List β} (t : All2 R as bs) {i : Nat} {a : α} (h : as[i]? = some a) : ∃ b, bs[i]? = some b ∧ R a b := by
  induction t generalizing i with
  | nil => simp at h
  | cons x t ih => cases i with
    | zero => simp at h; subst h; exact ⟨_, rfl, x⟩
    | succ i => simp at h; simpa using ih h

/-! ### data in memory -/
/-- Cells that stand in a row, from a place on. -/
def At (w : World) (b off : Nat) (l : List Value) : Prop :=
  ∃ c el fz, w.heap[b]? = some (.cells c el fz) ∧ ∀ i v, l[i]? = some v → c[off + i]? = some v
def Val (g : Bool) (p : List Value → Prop) (v : Value) : Prop := match g with | true => ∃ cs : Array Value, v = .agg cs ∧ p cs.toList | false => p [v]
def RepC (w : World) (O : Nat → Prop) : (t : Ty) → El t → List Value → Prop
  | .bool, x, vs => vs = [.bool x]
  | .int k, x, vs => vs = [.int k x]
  | .str, x, vs => vs = [.string x]
  | .unit, _, vs => vs = []
  | .pair a b, x, vs => ∃ l r, vs = l ++ r ∧ RepC w O a x.1 l ∧ RepC w O b x.2 r
  | .st r, x, vs => RepC w O r x vs
  | .sl e, xs, vs => ∃ a cap, vs = [.slice a xs.length cap] ∧ xs.length ≤ cap ∧
      (xs ≠ [] → ∃ b off, a = some ⟨b, off, none⟩ ∧ ¬ O b ∧ ∀ j (h : j < xs.length), ∃ l, RepC w O e xs[j] l ∧ At w b (off + j * width e) l)
  | .mp k v, m, vs => ∃ r, vs = [.map r] ∧ ((r = none ∧ m = []) ∨ ∃ b es clock, r = some b ∧ ¬ O b ∧ w.heap[b]? = some (.map es clock) ∧ es.size = m.length ∧
      ∀ j (h : j < m.length), ∃ en, es[j]? = some en ∧ Val (rowB k) (fun l => RepC w O k m[j].1 l) en.key ∧ Val (rowB v) (fun l => RepC w O v m[j].2 l) en.val)
  | .pt t, x, vs => (x = none ∧ vs = [.pointer none]) ∨ ∃ y b off l, x = some y ∧ vs = [.pointer (some ⟨b, off, none⟩)] ∧ ¬ O b ∧ RepC w O t y l ∧ At w b off l
def RepV (w : World) (O : Nat → Prop) (t : Ty) (x : El t) (v : Value) : Prop := Val (rowB t) (fun l => RepC w O t x l) v

theorem RepC_len {w : World} {O : Nat → Prop} : ∀ {t : Ty} {x : El t} {l : List Value}, RepC w O t x l → l.length = width t := by
  intro t
  induction t with
  | pair a b ha hb =>
    rintro x l ⟨l1, l2, rfl, h1, h2⟩
    simp [width, ha h1, hb h2]
  | st r h => intro x l hl; exact h hl
  | sl e _ => rintro x l ⟨a, cap, rfl, _⟩; rfl
  | mp k v _ _ => rintro x l ⟨r, rfl, _⟩; rfl
  | pt t _ => rintro x l (⟨_, rfl⟩ | ⟨y, b, off, l', _, rfl, _⟩) <;> rfl
  | _ => rintro x l rfl; rfl

theorem heap_lt {w : World} {b : Nat} {o : Obj} (h : w.heap[b]? = some o) : b < w.heap.size := by
  rcases Nat.lt_or_ge b w.heap.size with h' | h'
  · exact h'
  · rw [Array.getElem?_eq_none h'] at h; cases h
theorem At.lt {w : World} {b off : Nat} {l : List Value} (h : At w b off l) : b < w.heap.size := by
  obtain ⟨c, el, fz, h, _⟩ := h; exact heap_lt h
theorem At.same {w w' : World} {b off : Nat} {l : List Value} (h : At w b off l) (e : w'.heap[b]? = w.heap[b]?) : At w' b off l := by
  obtain ⟨c, el, fz, h, hc⟩ := h; exact ⟨c, el, fz, e.trans h, hc⟩
theorem Val.mono {g : Bool} {p q : List Value → Prop} {v : Value} (h : Val g p v) (hpq : ∀ l, p l → q l) : Val g q v := by
  cases g
  · exact hpq _ h
  · obtain ⟨cs, rfl, hc⟩ := h; exact ⟨cs, rfl, hpq _ hc⟩
/-- What isn't owned stays, and stays so. -/
def Free (w : World) (O : Nat → Prop) (w' : World) (O' : Nat → Prop) : Prop := ∀ b, b < w.heap.size → ¬ O b → w'.heap[b]? = w.heap[b]? ∧ ¬ O' b
theorem RepC.mono {w w' : World} {O O' : Nat → Prop} (hf : Free w O w' O') : ∀ {t : Ty} {x : El t} {l : List Value}, RepC w O t x l → RepC w' O' t x l := by
  intro t
  induction t with
  | pair a b ha hb => rintro x l ⟨l1, l2, rfl, h1, h2⟩; exact ⟨l1, l2, rfl, ha h1, hb h2⟩
  | st r h => intro x l hl; exact h hl
  | sl e ih =>
    rintro xs l ⟨a, cap, rfl, hle, h⟩
    refine ⟨a, cap, rfl, hle, fun hne => ?_⟩
    obtain ⟨b, off, rfl, hb, hx⟩ := h hne
    have hlt : b < w.heap.size := by
      obtain ⟨l, _, hat⟩ := hx 0 (by cases xs <;> simp_all)
      exact hat.lt
    obtain ⟨e1, e2⟩ := hf b hlt hb
    exact ⟨b, off, rfl, e2, fun j hj => let ⟨l, hr, hat⟩ := hx j hj; ⟨l, ih hr, hat.same e1⟩⟩
  | mp k v hk hv =>
    rintro m l ⟨r, rfl, h⟩
    refine ⟨r, rfl, ?_⟩
    rcases h with h | ⟨b, es, clock, rfl, hb, hh, hs, hx⟩
    · exact .inl h
    · obtain ⟨e1, e2⟩ := hf b (heap_lt hh) hb
      exact .inr ⟨b, es, clock, rfl, e2, e1.trans hh, hs, fun j hj => let ⟨en, he, h1, h2⟩ := hx j hj; ⟨en, he, h1.mono fun _ => hk, h2.mono fun _ => hv⟩⟩
  | pt t ih =>
    rintro x l (h | ⟨y, b, off, l', hx, rfl, hb, hr, hat⟩)
    · exact .inl h
    · obtain ⟨e1, e2⟩ := hf b hat.lt hb
      exact .inr ⟨y, b, off, l', hx, rfl, e2, ih hr, hat.same e1⟩
  | _ => rintro x l rfl; rfl
theorem RepV.mono {w w' : World} {O O' : Nat → Prop} (hf : Free w O w' O') {t : Ty} {x : El t} {v : Value} (h : RepV w O t x v) : RepV w' O' t x v := Val.mono h fun _ => RepC.mono hf
theorem Free.refl (w : World) (O : Nat → Prop) : Free w O w O := fun _ _ h => ⟨rfl, h⟩
/-- The cells of a type's zero value. -/
def zeroCells : Ty → List Value
  | .bool => [.bool false] | .int k => [.int k 0] | .str => [.string ByteArray.empty] | .unit => []
  | .pair a b => zeroCells a ++ zeroCells b | .st r => zeroCells r
  | .sl _ => [.slice none 0 0] | .mp _ _ => [.map none] | .pt _ => [.pointer none]
theorem RepC_zero {w : World} {O : Nat → Prop} : ∀ t : Ty, RepC w O t (zeroEl t) (zeroCells t) := by
  intro t
  induction t with
  | pair a b ha hb => exact ⟨_, _, rfl, ha, hb⟩
  | st r h => exact h
  | sl e _ => exact ⟨none, 0, rfl, Nat.le_refl _, fun h => absurd rfl h⟩
  | mp k v _ _ => exact ⟨none, rfl, .inl ⟨rfl, rfl⟩⟩
  | pt t _ => exact .inl ⟨rfl, rfl⟩
  | _ => rfl

/-! ### states in memory -/
inductive Own where
  | at_ (l : Loc) | bx (id : Id) | om | ext
structure Ghost where
  Γ : Id → Option (Value × List Nat)
  β : Id → Option (Nat × Nat)
  ρ : Nat → Option Own
def Ow (ρ : Nat → Option Own) (b : Nat) : Prop := ρ b ≠ none
abbrev Ghost.O (G : Ghost) : Nat → Prop := Ow G.ρ
/-- What stands for a closure that came in: its value; its state in memory (M: what it owns; O: what is owned). -/
structure CloRep (Ω : Type) where
  val : Value
  fn : ∃ f x y, val = .func f x y
  K : Ω → World → (Nat → Prop) → (Nat → Prop) → Prop
  stable : ∀ {s w w' M M' O O'}, K s w M O → w.heap.size ≤ w'.heap.size → (∀ b, M b → w'.heap[b]? = w.heap[b]?) → Free w O w' O' → (∀ b, M b → M' b) → K s w' M' O'
def ArrRep (ρ : Nat → Option Own) (w : World) (o : Own) (e : Ty) (xs : List (El e)) (v : Value) : Prop :=
  (xs = [] ∧ v = .slice none 0 0) ∨ ∃ b off cap c el, v = .slice (some ⟨b, off, none⟩) xs.length cap ∧ xs.length ≤ cap ∧ ρ b = some o ∧
    w.heap[b]? = some (.cells c el (0, 0)) ∧ off + cap * width e ≤ c.size ∧ ∀ j (h : j < xs.length), ∃ vs, RepC w (Ow ρ) e xs[j] vs ∧ ∀ i v, vs[i]? = some v → c[off + j * width e + i]? = some v
def MapRep (ρ : Nat → Option Own) (w : World) (o : Own) (k v : Ty) (m : List (El k × El v)) (u : Value) (bs : List Nat) : Prop :=
  ∃ b es clock, u = .map (some b) ∧ ρ b = some o ∧ w.heap[b]? = some (.map es clock) ∧ es.size = m.length ∧ es.toList.map (·.born) = bs ∧
    (∀ j (h : j < m.length), ∃ en, es[j]? = some en ∧ RepV w (Ow ρ) k m[j].1 en.key ∧ RepV w (Ow ρ) v m[j].2 en.val) ∧
    (∀ (i j : Nat) x y, es[i]? = some x → es[j]? = some y → x.born = y.born → i = j) ∧ ∀ (i : Nat) x, es[i]? = some x → x.born < clock
def RepL (C : CloRep Ω) (G : Ghost) (w : World) (at_ : Option Loc) : Leaf Ω → Value → Prop
  | .dat t x, v => RepC w G.O t x [v]
  | .nilS, v => v = .slice none 0 0
  | .nilM, v => v = .map none
  | .nilP, v => v = .pointer none
  | .arr id e xs, v => ∃ l, at_ = some l ∧ (∃ bs, G.Γ id = some (v, bs)) ∧ ArrRep G.ρ w (.at_ l) e xs v
  | .omp id k vt m, v => ∃ l bs, at_ = some l ∧ G.Γ id = some (v, bs) ∧ MapRep G.ρ w (.at_ l) k vt m v bs
  | .ref id off n, v => ∃ b, G.β id = some (b, n) ∧ v = .pointer (some ⟨b, off, none⟩)
  | .ali _ id, v => (∃ bs, G.Γ id = some (v, bs)) ∧ v.oneCell' = true
  | .avw _ id sz lo hi, v => ∃ a len cap bs, G.Γ id = some (.slice a len cap, bs) ∧ 0 ≤ lo ∧ lo ≤ hi ∧ hi ≤ (len : Int) ∧ len ≤ cap ∧
      v = .slice (if (cap : Int) = lo then a else a.map (·.add (lo.toNat * sz))) (hi - lo).toNat (cap - lo.toNat)
  | .eptr t x, v => ∃ b off l, v = .pointer (some ⟨b, off, none⟩) ∧ ¬ G.O b ∧ RepC w G.O t x l ∧ At w b off l
  | .aptr _ id sz n off, v => ∃ b o len cap bs, G.Γ id = some (.slice (some ⟨b, o, none⟩) len cap, bs) ∧ 0 ≤ n ∧ n < (len : Int) ∧ v = .pointer (some ⟨b, o + n.toNat * sz + off, none⟩)
  | .clo f caps, v => ∃ bs : List Nat, bs.length = caps.length ∧ (∀ (i : Nat) b c, bs[i]? = some b → caps[i]? = some c → G.β c.1 = some (b, c.2.2)) ∧
      v = .func (.func f) #[] ((bs.zip caps).map fun p => Value.pointer (some ⟨p.1, p.2.2.1, none⟩)).toArray
  | .fnv, v => v = C.val
  | .ent _ id0 id j, v => ∃ u bs n, G.Γ id = some (u, bs) ∧ (∃ bs0, G.Γ id0 = some (u, bs0)) ∧ bs[j]? = some n ∧ v = .int .i64 (n : Nat)
  | .opq _, _ => False
  | .dead, _ => True
def RepAV1 (C : CloRep Ω) (G : Ghost) (w : World) (at_ : Option Loc) : AV Ω → Value → Prop
  | .one l, v => RepL C G w at_ l v
  | .agg ls, v => ∃ vs : Array Value, v = .agg vs ∧ All2 (RepL C G w none) ls vs.toList
  | .tup _, _ => False
def RepAV (C : CloRep Ω) (G : Ghost) (w : World) (at_ : Option Loc) : AV Ω → Value → Prop
  | .tup ps, v => ∃ us : Array Value, v = .tuple us ∧ All2 (fun p u => RepAV1 C G w none (avOf p.1 p.2) u) ps us.toList
  | u, v => RepAV1 C G w at_ u v
def RepAt (C : CloRep Ω) (G : Ghost) (a : Act) (w : World) (l : Loc) (u : AV Ω) : Prop :=
  match l with
  | .tmp t => RepAV C G w (some l) u (a.tmps.getD t undef)
  | .comp _ _ => u = .one .dead ∨ ∃ v, RepAV1 C G w (some l) u v
  | .box id j => u = .one .dead ∨ ∃ b n v, G.β id = some (b, n) ∧ w.cell? ⟨b, j, none⟩ = some v ∧ RepAV1 C G w (some l) u v
  | .om => u = .one .dead ∨ ∃ s, u = .one (.opq s) ∧ C.K s w (fun b => G.ρ b = some .om) G.O
structure Rep (C : CloRep Ω) (G : Ghost) (N : Nat) (used : Id → Prop) (st : S Ω) (a : Act) (w : World) : Prop where
  at_ : ∀ l, RepAt C G a w l (st.get l)
  size : a.tmps.size = N
  defers : a.defers = []
  box : ∀ id b n, G.β id = some (b, n) → G.ρ b = some (.bx id) ∧ ∃ c el, w.heap[b]? = some (.cells c el (0, 0)) ∧ c.size = n
  usedΓ : ∀ id, G.Γ id ≠ none → used id
  usedβ : ∀ id, G.β id ≠ none → used id
  lt : ∀ b, G.O b → b < w.heap.size
/-- A step of memory: what isn't among L stays. -/
structure Step (G : Ghost) (w : World) (G' : Ghost) (w' : World) (L : Loc → Prop) : Prop where
  Γ : ∀ id v, G.Γ id = some v → G'.Γ id = some v
  β : ∀ id b, G.β id = some b → G'.β id = some b
  os : w'.os = w.os
  tape : w'.tape = w.tape
  output : w'.output = w.output
  size : w.heap.size ≤ w'.heap.size
  free : Free w G.O w' G'.O
  own : ∀ b l, G.ρ b = some (.at_ l) → ¬ L l → w'.heap[b]? = w.heap[b]? ∧ G'.ρ b = some (.at_ l)
  ext : ∀ b, G.ρ b = some .ext → w'.heap[b]? = w.heap[b]? ∧ G'.ρ b = some .ext
  om : ∀ b, G.ρ b = some .om → ¬ L .om → w'.heap[b]? = w.heap[b]? ∧ G'.ρ b = some .om
  bx : ∀ b n id, G.β id = some (b, n) → G'.ρ b = some (.bx id) ∧ (∃ c el, w'.heap[b]? = some (.cells c el (0, 0)) ∧ c.size = n) ∧ ∀ j, ¬ L (.box id j) → w'.cell? ⟨b, j, none⟩ = w.cell? ⟨b, j, none⟩
  lt : ∀ b, G'.O b → b < w'.heap.size
  omr : ∀ b, b < w.heap.size → G'.ρ b = some .om → ¬ L .om → G.ρ b = some .om
section
variable {C : CloRep Ω} {G G' : Ghost} {w w' : World} {L : Loc → Prop}
theorem Rep.box' {N : Nat} {used : Id → Prop} {st : S Ω} {a : Act} (h : Rep C G N used st a w) : ∀ b n id, G.β id = some (b, n) → G.ρ b = some (.bx id) ∧ ∃ c el, w.heap[b]? = some (.cells c el (0, 0)) ∧ c.size = n := fun b n id => h.box id b n
theorem ArrRep.step (hs : Step G w G' w' L) {l : Loc} (hl : ¬ L l) {e : Ty} {xs : List (El e)} {v : Value} (h : ArrRep G.ρ w (.at_ l) e xs v) : ArrRep G'.ρ w' (.at_ l) e xs v := by
  rcases h with h | ⟨b, off, cap, c, el, hv, hc, hb, hh, hsz, hx⟩
  · exact .inl h
  · obtain ⟨e1, e2⟩ := hs.own b l hb hl
    exact .inr ⟨b, off, cap, c, el, hv, hc, e2, e1.trans hh, hsz, fun j hj => let ⟨vs, hr, hat⟩ := hx j hj; ⟨vs, hr.mono hs.free, hat⟩⟩
theorem MapRep.step (hs : Step G w G' w' L) {l : Loc} (hl : ¬ L l) {k v : Ty} {m : List (El k × El v)} {u : Value} {bs : List Nat} (h : MapRep G.ρ w (.at_ l) k v m u bs) : MapRep G'.ρ w' (.at_ l) k v m u bs := by
  obtain ⟨b, es, clock, hu, hb, hh, hsz, hbs, hx, hr⟩ := h
  obtain ⟨e1, e2⟩ := hs.own b l hb hl
  exact ⟨b, es, clock, hu, e2, e1.trans hh, hsz, hbs, fun j hj => let ⟨en, he, h1, h2⟩ := hx j hj; ⟨en, he, h1.mono hs.free, h2.mono hs.free⟩, hr⟩
theorem RepL.step (hs : Step G w G' w' L) {at_ : Option Loc} (hl : ∀ l, at_ = some l → ¬ L l) {x : Leaf Ω} {v : Value} (h : RepL C G w at_ x v) : RepL C G' w' at_ x v := by
  cases x with
  | dat t x => exact RepC.mono hs.free h
  | arr id e xs => obtain ⟨l, e1, ⟨bs, e2⟩, h⟩ := h; exact ⟨l, e1, ⟨bs, hs.Γ _ _ e2⟩, h.step hs (hl l e1)⟩
  | omp id k vt m => obtain ⟨l, bs, e1, e2, h⟩ := h; exact ⟨l, bs, e1, hs.Γ _ _ e2, h.step hs (hl l e1)⟩
  | ref id off n => obtain ⟨b, e1, e2⟩ := h; exact ⟨b, hs.β _ _ e1, e2⟩
  | ali l id => obtain ⟨⟨bs, e⟩, h⟩ := h; exact ⟨⟨bs, hs.Γ _ _ e⟩, h⟩
  | avw l id sz lo hi => obtain ⟨a, len, cap, bs, e, r⟩ := h; exact ⟨a, len, cap, bs, hs.Γ _ _ e, r⟩
  | eptr t x =>
    obtain ⟨b, off, l, e, hb, hr, hat⟩ := h
    obtain ⟨e1, e2⟩ := hs.free b hat.lt hb
    exact ⟨b, off, l, e, e2, hr.mono hs.free, hat.same e1⟩
  | aptr l id sz n off => obtain ⟨b, o, len, cap, bs, e, r⟩ := h; exact ⟨b, o, len, cap, bs, hs.Γ _ _ e, r⟩
  | clo f caps => obtain ⟨bs, e1, e2, e3⟩ := h; exact ⟨bs, e1, fun i b c hb hc => hs.β _ _ (e2 i b c hb hc), e3⟩
  | ent l id0 id j => obtain ⟨u, bs, n, e, ⟨bs0, e0⟩, r⟩ := h; exact ⟨u, bs, n, hs.Γ _ _ e, ⟨bs0, hs.Γ _ _ e0⟩, r⟩
  | opq s => exact h.elim
  | _ => exact h
theorem RepAV1.step (hs : Step G w G' w' L) {at_ : Option Loc} (hl : ∀ l, at_ = some l → ¬ L l) {x : AV Ω} {v : Value} (h : RepAV1 C G w at_ x v) : RepAV1 C G' w' at_ x v := by
  cases x with
  | one l => exact RepL.step hs hl h
  | agg ls => obtain ⟨vs, e, h⟩ := h; exact ⟨vs, e, h.mono fun _ _ => RepL.step hs (fun _ e => by cases e)⟩
  | tup ps => exact h.elim
theorem RepAV.step (hs : Step G w G' w' L) {at_ : Option Loc} (hl : ∀ l, at_ = some l → ¬ L l) {x : AV Ω} {v : Value} (h : RepAV C G w at_ x v) : RepAV C G' w' at_ x v := by
  cases x with
  | tup ps => obtain ⟨us, e, h⟩ := h; exact ⟨us, e, h.mono fun _ _ => RepAV1.step hs (fun _ e => by cases e)⟩
  | one l => exact RepAV1.step (x := .one l) hs hl h
  | agg ls => exact RepAV1.step (x := .agg ls) hs hl h
theorem RepAt.step (hs : Step G w G' w' L) {a a' : Act} {l : Loc} (hl : ¬ L l) (ha : ∀ t, l = .tmp t → a'.tmps.getD t undef = a.tmps.getD t undef) {u : AV Ω} (h : RepAt C G a w l u) : RepAt C G' a' w' l u := by
  have hl' : ∀ l', some l = some l' → ¬ L l' := fun l' e => by cases e; exact hl
  cases l with
  | tmp t =>
    unfold RepAt at h ⊢
    simp only at h ⊢
    rw [ha t rfl]
    exact RepAV.step hs hl' h
  | comp t i =>
    rcases h with h | ⟨v, h⟩
    · exact .inl h
    · exact .inr ⟨v, RepAV1.step hs hl' h⟩
  | box id j =>
    rcases h with h | ⟨b, n, v, hb, hc, h⟩
    · exact .inl h
    · exact .inr ⟨b, n, v, hs.β _ _ hb, ((hs.bx b n id hb).2.2 j hl).trans hc, RepAV1.step hs hl' h⟩
  | om =>
    rcases h with h | ⟨s, e, h⟩
    · exact .inl h
    · exact .inr ⟨s, e, C.stable h hs.size (fun b hb => (hs.om b hb hl).1) hs.free (fun b hb => (hs.om b hb hl).2)⟩
/-- A step of memory, and writes: the state behind. -/
theorem Rep.step {N : Nat} {used used' : Id → Prop} {st ws : S Ω} {a a' : Act} (h : Rep C G N used st a w)
    (hs : Step G w G' w' (fun l => inL l (ws.map (·.1)) = true))
    (hw : ∀ l, inL l (ws.map (·.1)) = true → RepAt C G' a' w' l (S.get ws l))
    (ha : ∀ t, inL (.tmp t) (ws.map (·.1)) = false → a'.tmps.getD t undef = a.tmps.getD t undef)
    (hsz : a'.tmps.size = N) (hd : a'.defers = [])
    (hb : ∀ id b n, G'.β id = some (b, n) → G.β id = some (b, n) ∨ (G'.ρ b = some (.bx id) ∧ ∃ c el, w'.heap[b]? = some (.cells c el (0, 0)) ∧ c.size = n))
    (hΓ : ∀ id, G'.Γ id ≠ none → used' id) (hβ : ∀ id, G'.β id ≠ none → used' id) : Rep C G' N used' (ws ++ st) a' w' where
  at_ l := by
    cases hl : inL l (ws.map (·.1)) with
    | true => rw [get_in hl]; exact hw l hl
    | false =>
      rw [get_out hl]
      exact (h.at_ l).step hs (by simp [hl]) (fun t e => ha t (by rw [← e]; exact hl))
  size := hsz
  defers := hd
  box id b n hb' := by
    rcases hb id b n hb' with h' | h'
    · exact ⟨(hs.bx b n id h').1, (hs.bx b n id h').2.1⟩
    · exact h'
  usedΓ := hΓ
  usedβ := hβ
  lt := hs.lt
/-- Nothing changes but what a temporary stands for. -/
theorem Step.refl (h : ∀ b n id, G.β id = some (b, n) → G.ρ b = some (.bx id) ∧ ∃ c el, w.heap[b]? = some (.cells c el (0, 0)) ∧ c.size = n) (hlt : ∀ b, G.O b → b < w.heap.size) : Step G w G w L where
  Γ _ _ h := h
  β _ _ h := h
  os := rfl
  tape := rfl
  output := rfl
  size := Nat.le_refl _
  free := Free.refl _ _
  own _ _ h _ := ⟨rfl, h⟩
  ext _ h := ⟨rfl, h⟩
  om _ h _ := ⟨rfl, h⟩
  bx b n id hb := ⟨(h b n id hb).1, (h b n id hb).2, fun _ _ => rfl⟩
  lt := hlt
  omr _ _ h _ := h
/-- What is kept from a function's begin on. -/
structure Fr (ρ : Nat → Option Own) (w : World) (ρ' : Nat → Option Own) (w' : World) : Prop where
  os : w'.os = w.os
  tape : w'.tape = w.tape
  output : w'.output = w.output
  size : w.heap.size ≤ w'.heap.size
  free : Free w (Ow ρ) w' (Ow ρ')
  ext : ∀ b, ρ b = some .ext → w'.heap[b]? = w.heap[b]? ∧ ρ' b = some .ext
theorem Step.fr (h : Step G w G' w' L) : Fr G.ρ w G'.ρ w' := ⟨h.os, h.tape, h.output, h.size, h.free, h.ext⟩
theorem Fr.refl (ρ : Nat → Option Own) (w : World) : Fr ρ w ρ w := ⟨rfl, rfl, rfl, Nat.le_refl _, Free.refl _ _, fun _ h => ⟨rfl, h⟩⟩
theorem Fr.trans {ρ ρ' ρ'' : Nat → Option Own} {w w' w'' : World} (h : Fr ρ w ρ' w') (k : Fr ρ' w' ρ'' w'') : Fr ρ w ρ'' w'' where
  os := k.os.trans h.os
  tape := k.tape.trans h.tape
  output := k.output.trans h.output
  size := Nat.le_trans h.size k.size
  free b hb ho := by
    obtain ⟨e1, e2⟩ := h.free b hb ho
    obtain ⟨e3, e4⟩ := k.free b (Nat.lt_of_lt_of_le hb h.size) e2
    exact ⟨e3.trans e1, e4⟩
  ext b hb := by
    obtain ⟨e1, e2⟩ := h.ext b hb
    obtain ⟨e3, e4⟩ := k.ext b e2
    exact ⟨e3.trans e1, e4⟩
theorem getD_put {a : Act} {d : Nat} {v : Value} (h : d < a.tmps.size) : (a.put (some d) v).tmps.getD d undef = v := by
  simp [Act.put, h]
theorem getD_put_ne {a : Act} {d t : Nat} {v : Value} (h : d ≠ t) : (a.put (some d) v).tmps.getD t undef = a.tmps.getD t undef := by
  simp [Act.put, Array.getElem?_setIfInBounds_ne h]
theorem put_size {a : Act} {d : Option Nat} {v : Value} : (a.put d v).tmps.size = a.tmps.size := by cases d <;> simp [Act.put]
theorem put_defers {a : Act} {d : Option Nat} {v : Value} : (a.put d v).defers = a.defers := by cases d <;> rfl
/-- A value that owns nothing is put into a temporary. -/
theorem Rep.put {N : Nat} {used : Id → Prop} {st : S Ω} {a : Act} (h : Rep C G N used st a w) {d : Nat} (hd : d < N) {u : AV Ω} {v : Value} (hu : RepAV C G w (some (.tmp d)) u v) :
    Rep C G N used ((.tmp d, u) :: st) (a.put (some d) v) w := by
  have hd' : d < a.tmps.size := by rw [h.size]; exact hd
  refine Rep.step (ws := [(.tmp d, u)]) h (Step.refl h.box' h.lt) (fun l hl => ?_) (fun t ht => ?_) (put_size.trans h.size) (put_defers.trans h.defers) (fun id b n hb => .inl hb) h.usedΓ h.usedβ
  · have : l = .tmp d := by simpa [inL_iff] using hl
    subst this
    show RepAV C G w _ (S.get [(Loc.tmp d, u)] (.tmp d)) ((a.put (some d) v).tmps.getD d undef)
    rw [getD_put hd']
    simpa [S.get, locB_self] using hu
  · refine getD_put_ne fun e => ?_
    subst e
    simp [inL, locB_self] at ht
end
end
end Go.Proofs.Ytbgefphoochgcaa.FE
/- FE, part 5: rows of leaves and data; the table of types against the program's own. -/
namespace Go.Proofs.Ytbgefphoochgcaa.FE
open Go
set_option linter.unusedVariables false
set_option linter.unusedSimpArgs false
section
variable {Ω : Type} {C : CloRep Ω} {G : Ghost} {w : World}

/-! ### rows -/
theorem unpack_rep : ∀ {t : Ty} {x : El t} {l : List Value}, RepC w G.O t x l → All2 (RepL C G w none) (unpack t x) l := by
  intro t
  induction t with
  | pair a b ha hb => rintro x l ⟨l1, l2, rfl, h1, h2⟩; exact (ha h1).append (hb h2)
  | st r h => intro x l hl; exact h hl
  | unit => rintro x l rfl; exact .nil
  | sl e _ => rintro x l h; obtain ⟨a, cap, rfl, r⟩ := h; exact .cons ⟨a, cap, rfl, r⟩ .nil
  | mp k v _ _ => rintro x l h; obtain ⟨r, rfl, h⟩ := h; exact .cons ⟨r, rfl, h⟩ .nil
  | pt t _ =>
    rintro x l h
    have hl := RepC_len h
    match l, hl with
    | [v], _ => exact .cons h .nil
  | _ => rintro x l rfl; exact .cons rfl .nil
theorem all2_nil {α β : Type} {R : α → β → Prop} {l : List β} (h : All2 R [] l) : l = [] := by cases h; rfl
theorem all2_cons {α β : Type} {R : α → β → Prop} {a : α} {as : List α} {l : List β} (h : All2 R (a :: as) l) : ∃ b bs, l = b :: bs ∧ R a b ∧ All2 R as bs := by
  cases h with
  | cons h t => exact ⟨_, _, rfl, h, t⟩
theorem cast_rep {O : Nat → Prop} {t t' : Ty} {x : El t} {y : El t'} (h : cast? t t' x = some y) {l : List Value} (hr : RepC w O t x l) : RepC w O t' y l := by
  unfold cast? at h
  split at h
  · rename_i hb
    cases Ty.eq_of_beq hb
    cases h
    exact hr
  · cases h
/-- A cast, told as an equation. -/
theorem cast_eq {t t' : Ty} {x : El t} {y : El t'} (h : cast? t t' x = some y) : ∃ e : t = t', y = e ▸ x := by
  unfold cast? at h
  split at h
  · rename_i hb
    have e := Ty.eq_of_beq hb
    subst e
    exact ⟨rfl, (Option.some.inj h).symm⟩
  · cases h
theorem pack_leaf {t : Ty} {a : Leaf Ω} {r : List (Leaf Ω)} {z : El t × List (Leaf Ω)}
    (hp : pack t (a :: r) = some z) (h1 : ∀ a b, t ≠ .pair a b) (h2 : ∀ r, t ≠ .st r) (h3 : t ≠ .unit) : z.2 = r ∧
      ((∃ t' x, a = .dat t' x ∧ cast? t' t x = some z.1) ∨ (∃ e, ∃ h : t = .sl e, a = .nilS ∧ (h ▸ z.1 : El (.sl e)) = ([] : List (El e))) ∨
       (∃ k v, ∃ h : t = .mp k v, a = .nilM ∧ (h ▸ z.1 : El (.mp k v)) = ([] : List (El k × El v))) ∨ (∃ e, ∃ h : t = .pt e, a = .nilP ∧ (h ▸ z.1 : El (.pt e)) = (none : Option (El e)))) := by
  cases t with
  | pair a b => exact absurd rfl (h1 a b)
  | st r => exact absurd rfl (h2 r)
  | unit => exact absurd rfl h3
  | sl e =>
    cases a with
    | dat t' x =>
      simp only [pack, Option.bind_eq_some_iff] at hp
      obtain ⟨y, hy, hz⟩ := hp; cases hz
      exact ⟨rfl, .inl ⟨t', x, rfl, hy⟩⟩
    | nilS => simp only [pack, Option.some.injEq] at hp; subst hp; exact ⟨rfl, .inr (.inl ⟨e, rfl, rfl, rfl⟩)⟩
    | _ => simp [pack] at hp
  | mp k v =>
    cases a with
    | dat t' x =>
      simp only [pack, Option.bind_eq_some_iff] at hp
      obtain ⟨y, hy, hz⟩ := hp; cases hz
      exact ⟨rfl, .inl ⟨t', x, rfl, hy⟩⟩
    | nilM => simp only [pack, Option.some.injEq] at hp; subst hp; exact ⟨rfl, .inr (.inr (.inl ⟨k, v, rfl, rfl, rfl⟩))⟩
    | _ => simp [pack] at hp
  | pt e =>
    cases a with
    | dat t' x =>
      simp only [pack, Option.bind_eq_some_iff] at hp
      obtain ⟨y, hy, hz⟩ := hp; cases hz
      exact ⟨rfl, .inl ⟨t', x, rfl, hy⟩⟩
    | nilP => simp only [pack, Option.some.injEq] at hp; subst hp; exact ⟨rfl, .inr (.inr (.inr ⟨e, rfl, rfl, rfl⟩))⟩
    | _ => simp [pack] at hp
  | _ =>
    cases a with
    | dat t' x =>
      simp only [pack, Option.bind_eq_some_iff] at hp
      obtain ⟨y, hy, hz⟩ := hp; cases hz
      exact ⟨rfl, .inl ⟨t', x, rfl, hy⟩⟩
    | _ => simp [pack] at hp
theorem pack_rep : ∀ {t : Ty} {ls : List (Leaf Ω)} {z : El t × List (Leaf Ω)} {l : List Value}, pack t ls = some z → All2 (RepL C G w none) ls l →
    ∃ l1 l2, l = l1 ++ l2 ∧ RepC w G.O t z.1 l1 ∧ All2 (RepL C G w none) z.2 l2 := by
  intro t
  have leaf : ∀ {t : Ty} {ls : List (Leaf Ω)} {z : El t × List (Leaf Ω)} {l : List Value}, (∀ a b, t ≠ .pair a b) → (∀ r, t ≠ .st r) → t ≠ .unit → pack t ls = some z → All2 (RepL C G w none) ls l →
      ∃ l1 l2, l = l1 ++ l2 ∧ RepC w G.O t z.1 l1 ∧ All2 (RepL C G w none) z.2 l2 := by
    intro t ls z l h1 h2 h3 hp ha
    cases ls with
    | nil => cases t <;> simp [pack] at hp <;> first | exact absurd rfl (h1 _ _) | exact absurd rfl (h2 _) | exact absurd rfl h3
    | cons a r =>
      obtain ⟨b, bs, rfl, hb, hr⟩ := all2_cons ha
      obtain ⟨e2, h⟩ := pack_leaf hp h1 h2 h3
      refine ⟨[b], bs, rfl, ?_, e2 ▸ hr⟩
      rcases h with ⟨t', x, rfl, hc⟩ | ⟨e, rfl, rfl, hz⟩ | ⟨k, v, rfl, rfl, hz⟩ | ⟨e, rfl, rfl, hz⟩
      · exact cast_rep hc hb
      · obtain rfl : b = .slice none 0 0 := hb
        show RepC w G.O (.sl e) z.1 _
        rw [show z.1 = ([] : List (El e)) from hz]
        exact ⟨none, 0, rfl, Nat.le_refl _, fun h => absurd rfl h⟩
      · obtain rfl : b = .map none := hb
        show RepC w G.O (.mp k v) z.1 _
        rw [show z.1 = ([] : List (El k × El v)) from hz]
        exact ⟨none, rfl, .inl ⟨rfl, rfl⟩⟩
      · obtain rfl : b = .pointer none := hb
        show RepC w G.O (.pt e) z.1 _
        rw [show z.1 = (none : Option (El e)) from hz]
        exact .inl ⟨rfl, rfl⟩
  induction t with
  | pair a b ha hb =>
    intro ls z l hp h
    simp only [pack, Option.bind_eq_some_iff] at hp
    obtain ⟨x, hx, y, hy, hz⟩ := hp
    cases hz
    obtain ⟨l1, l2, rfl, r1, r2⟩ := ha hx h
    obtain ⟨l3, l4, rfl, r3, r4⟩ := hb hy r2
    exact ⟨l1 ++ l3, l4, by simp, ⟨l1, l3, rfl, r1, r3⟩, r4⟩
  | st r ih => intro ls z l hp h; exact ih hp h
  | unit =>
    intro ls z l hp h
    simp only [pack, Option.some.injEq] at hp
    subst hp
    exact ⟨[], l, rfl, rfl, h⟩
  | _ => intro ls z l hp h; exact leaf (fun _ _ e => by cases e) (fun _ e => by cases e) (fun e => by cases e) hp h
theorem packAll_rep {t : Ty} {ls : List (Leaf Ω)} {x : El t} {l : List Value} (hp : packAll t ls = some x) (h : All2 (RepL C G w none) ls l) : RepC w G.O t x l := by
  unfold packAll at hp
  simp only [Option.bind_eq_some_iff] at hp
  obtain ⟨z, hz, hx⟩ := hp
  obtain ⟨l1, l2, rfl, r1, r2⟩ := pack_rep hz h
  split at hx
  · rename_i e
    rw [e] at r2
    cases hx
    rw [all2_nil r2, List.append_nil]
    exact r1
  · cases hx
theorem zeroLeaf_rep : ∀ t : Ty, All2 (RepL C G w none) (zeroLeaf t) (zeroCells t) := by
  intro t
  induction t with
  | pair a b ha hb => exact ha.append hb
  | st r h => exact h
  | unit => exact .nil
  | _ => exact .cons rfl .nil
theorem zeroCells_len : ∀ t : Ty, (zeroCells t).length = width t := by
  intro t
  induction t with
  | pair a b ha hb => simp [zeroCells, width, ha, hb]
  | st r h => exact h
  | _ => rfl

/-! ### the table -/
def vB : Value → Value → Bool
  | .bool a, .bool b => a == b
  | .int k n, .int k' n' => and (Nat.beq (IK k) (IK k')) (decide (n = n'))
  | .string a, .string b => and (Nat.beq a.size 0) (Nat.beq b.size 0)
  | .slice none 0 0, .slice none 0 0 => true
  | .map none, .map none => true
  | .pointer none, .pointer none => true
  | _, _ => false
theorem IK_inj {k k' : IntKind} (h : IK k = IK k') : k = k' := by cases k <;> cases k' <;> first | rfl | cases h
theorem empty_of_size {a : ByteArray} (h : a.size = 0) : a = ByteArray.empty := by
  cases a with
  | mk d => have : d = #[] := Array.eq_empty_of_size_eq_zero h
            subst this; rfl
theorem vB_eq {a b : Value} (h : vB a b = true) : a = b := by
  unfold vB at h
  split at h <;> simp_all
  exact IK_inj h.1
def vsB : List Value → List Value → Bool
  | [], [] => true
  | a :: r, b :: s => and (vB a b) (vsB r s)
  | _, _ => false
theorem vsB_eq : ∀ {a b : List Value}, vsB a b = true → a = b
  | [], [], _ => rfl
  | a :: r, b :: s, h => by
    simp only [vsB, Bool.and_eq_true] at h
    rw [vB_eq h.1, vsB_eq h.2]
  | [], _ :: _, h => by cases h
  | _ :: _, [], h => by cases h
def aggB : Value → Bool | .agg _ => true | _ => false
def fieldsB (P : Program) : List Field → List (Nat × Nat) → Bool
  | [], [] => true
  | f :: r, p :: s => and (Nat.beq f.offset p.1) (and (Nat.beq f.type p.2) (and (Nat.blt 0 (P.cellsOf f.type)) (fieldsB P r s)))
  | _, _ => false
/-- A type's zero and its cells. -/
def zeroB (P : Program) (t : Nat) (ty : Ty) : Bool :=
  match P.info? t with
  | some i => and (Nat.beq i.size (width ty)) (and (Nat.ble i.bytes 2048) (match i.zero with | some z => and (vsB z.cells.toList (zeroCells ty)) (aggB z == rowB ty) | none => false))
  | none => false
/-- What keys may be. -/
def keyB (P : Program) (t : Nat) (K : Ty) : Bool :=
  match K, P.underlying t with
  | .int k, some (.int k') => Nat.beq (IK k) (IK k')
  | .str, some .string => true
  | _, _ => false
def kindB (P : Program) (t : Nat) (k : TK) (ty : Ty) : Bool :=
  match k, P.underlying t with
  | .int k, some (.int k') => and (Nat.beq (IK k) (IK k')) (ty.beq (.int k))
  | .bool, some .bool => ty.beq .bool
  | .str, some .string => ty.beq .str
  | .sl e, some (.slice e') => and (Nat.beq e e') (match ty with | .sl E => zeroB P e E | .unit => true | _ => false)
  | .st fs, some (.struct fs') => fieldsB P fs'.toList fs
  | .ptr e, some (.pointer e') => Nat.beq e e'
  | .mp k v, some (.map k' v') => and (Nat.beq k k') (and (Nat.beq v v') (match ty with | .mp K V => and (keyB P k K) (zeroB P v V) | .unit => true | _ => false))
  | .other, some (.struct _) => false
  | .other, some (.array _ _) => false
  | .other, some _ => true
  | _, _ => false
def tiB (P : Program) (t : Nat) (ti : TI) : Bool :=
  and (match P.info? t with | some i => Nat.beq i.size ti.size | none => false)
    (and (kindB P t ti.kind ti.ty) (match ti.ty with | .unit => true | ty => and (zeroB P t ty) (rowB ty == isSt ti.kind)))
def tabB (P : Program) : Nat → Tab → Bool
  | _, [] => true
  | t, none :: r => tabB P (t + 1) r
  | t, some ti :: r => and (tiB P t ti) (tabB P (t + 1) r)
theorem tabB_get {P : Program} : ∀ {T : Tab} {n t : Nat} {ti : TI}, tabB P n T = true → T.get t = some ti → tiB P (n + t) ti = true
  | [], _, _, _, _, h => by cases h
  | none :: r, n, 0, ti, _, h => by cases h
  | some x :: r, n, 0, ti, hb, h => by
    simp only [tabB, Bool.and_eq_true] at hb
    cases h
    exact hb.1
  | none :: r, n, t + 1, ti, hb, h => by
    have := tabB_get (T := r) (n := n + 1) (t := t) hb h
    rw [show n + (t + 1) = n + 1 + t by omega]; exact this
  | some x :: r, n, t + 1, ti, hb, h => by
    simp only [tabB, Bool.and_eq_true] at hb
    have := tabB_get (T := r) (n := n + 1) (t := t) hb.2 h
    rw [show n + (t + 1) = n + 1 + t by omega]; exact this
/-- What is told of a program: its table of types. -/
structure TabOk (P : Program) (T : Tab) : Prop where
  ok : ∀ t ti, T.get t = some ti → tiB P t ti = true
theorem TabOk.of {P : Program} {T : Tab} (h : tabB P 0 T = true) : TabOk P T := ⟨fun t ti hg => by have := tabB_get h hg; rwa [Nat.zero_add] at this⟩
section
variable {P : Program} {T : Tab} {t : Nat} {ti : TI}
theorem TabOk.info (h : TabOk P T) (hg : T.get t = some ti) : ∃ i, P.info? t = some i ∧ i.size = ti.size := by
  have := h.ok t ti hg
  simp only [tiB, Bool.and_eq_true] at this
  obtain ⟨h1, _⟩ := this
  split at h1
  · rename_i i hi; exact ⟨i, hi, Nat.eq_of_beq_eq_true h1⟩
  · cases h1
theorem TabOk.kind (h : TabOk P T) (hg : T.get t = some ti) : kindB P t ti.kind ti.ty = true := by
  have := h.ok t ti hg
  simp only [tiB, Bool.and_eq_true] at this
  exact this.2.1
theorem zeroB_spec {ty : Ty} (h : zeroB P t ty = true) : ∃ i z, P.info? t = some i ∧ i.size = width ty ∧ i.bytes ≤ 2048 ∧ i.zero = some z ∧ z.cells.toList = zeroCells ty ∧ aggB z = rowB ty := by
  unfold zeroB at h
  split at h
  · rename_i i hi
    simp only [Bool.and_eq_true] at h
    obtain ⟨h1, h2, h3⟩ := h
    split at h3
    · rename_i z hz
      simp only [Bool.and_eq_true, beq_iff_eq] at h3
      exact ⟨i, z, hi, Nat.eq_of_beq_eq_true h1, Nat.le_of_ble_eq_true h2, hz, vsB_eq h3.1, h3.2⟩
    · cases h3
  · cases h
theorem TabOk.zero (h : TabOk P T) (hg : T.get t = some ti) (hu : ti.ty ≠ .unit) : zeroB P t ti.ty = true ∧ rowB ti.ty = isSt ti.kind := by
  have := h.ok t ti hg
  simp only [tiB, Bool.and_eq_true] at this
  obtain ⟨_, _, h3⟩ := this
  first
    | exact ⟨h3.1, by simpa using h3.2⟩
    | (split at h3
       · rename_i e; exact absurd e hu
       · simpa using h3)
theorem TabOk.sl (h : TabOk P T) (hg : T.get t = some ti) {e : Nat} (hk : ti.kind = .sl e) : P.underlying t = some (.slice e) ∧ ∀ E, ti.ty = .sl E → zeroB P e E = true := by
  have := h.kind hg
  rw [hk] at this
  cases hu : P.underlying t with
  | none => simp [kindB, hu] at this
  | some d =>
    cases d <;> simp [kindB, hu] at this
    obtain ⟨e1, h2⟩ := this
    subst e1
    exact ⟨rfl, fun E hE => by rw [hE] at h2; exact h2⟩
theorem TabOk.mp (h : TabOk P T) (hg : T.get t = some ti) {k v : Nat} (hk : ti.kind = .mp k v) : P.underlying t = some (.map k v) ∧ ∀ K V, ti.ty = .mp K V → keyB P k K = true ∧ zeroB P v V = true := by
  have := h.kind hg
  rw [hk] at this
  cases hu : P.underlying t with
  | none => simp [kindB, hu] at this
  | some d =>
    cases d <;> simp [kindB, hu] at this
    obtain ⟨e1, e2, h2⟩ := this
    subst e1 e2
    exact ⟨rfl, fun K V hE => by rw [hE] at h2; simpa using h2⟩
theorem TabOk.int (h : TabOk P T) (hg : T.get t = some ti) {k : IntKind} (hk : ti.kind = .int k) : P.underlying t = some (.int k) := by
  have := h.kind hg
  rw [hk] at this
  cases hu : P.underlying t with
  | none => simp [kindB, hu] at this
  | some d =>
    cases d <;> simp [kindB, hu] at this
    rw [IK_inj this.1]
theorem TabOk.ptr (h : TabOk P T) (hg : T.get t = some ti) {e : Nat} (hk : ti.kind = .ptr e) : P.underlying t = some (.pointer e) := by
  have := h.kind hg
  rw [hk] at this
  cases hu : P.underlying t with
  | none => simp [kindB, hu] at this
  | some d =>
    cases d <;> simp [kindB, hu] at this
    rw [this]
theorem TabOk.bool (h : TabOk P T) (hg : T.get t = some ti) (hk : ti.kind = .bool) : P.underlying t = some .bool := by
  have := h.kind hg
  rw [hk] at this
  cases hu : P.underlying t with
  | none => simp [kindB, hu] at this
  | some d => cases d <;> simp [kindB, hu] at this; rfl
theorem TabOk.str (h : TabOk P T) (hg : T.get t = some ti) (hk : ti.kind = .str) : P.underlying t = some .string := by
  have := h.kind hg
  rw [hk] at this
  cases hu : P.underlying t with
  | none => simp [kindB, hu] at this
  | some d => cases d <;> simp [kindB, hu] at this; rfl
theorem fieldsB_get : ∀ {fs : List Field} {gs : List (Nat × Nat)} {j : Nat} {p : Nat × Nat}, fieldsB P fs gs = true → gs[j]? = some p →
    ∃ f, fs[j]? = some f ∧ f.offset = p.1 ∧ f.type = p.2 ∧ 0 < P.cellsOf f.type
  | [], [], _, _, _, h => by simp at h
  | f :: r, q :: s, 0, p, h, hg => by
    simp only [fieldsB, Bool.and_eq_true] at h
    obtain rfl : q = p := by simpa using hg
    exact ⟨f, rfl, Nat.eq_of_beq_eq_true h.1, Nat.eq_of_beq_eq_true h.2.1, Nat.blt_eq.mp h.2.2.1⟩
  | f :: r, q :: s, j + 1, p, h, hg => by
    simp only [fieldsB, Bool.and_eq_true] at h
    obtain ⟨g, h1, h2⟩ := fieldsB_get (j := j) (p := p) h.2.2.2 (by simpa using hg)
    exact ⟨g, by simpa using h1, h2⟩
  | [], _ :: _, _, _, h, _ => by cases h
  | _ :: _, [], _, _, h, _ => by cases h
theorem TabOk.st (h : TabOk P T) (hg : T.get t = some ti) {fs : List (Nat × Nat)} (hk : ti.kind = .st fs) : ∃ gs : Array Field, P.underlying t = some (.struct gs) ∧ fieldsB P gs.toList fs = true := by
  have := h.kind hg
  rw [hk] at this
  cases hu : P.underlying t with
  | none => simp [kindB, hu] at this
  | some d =>
    cases d <;> simp [kindB, hu] at this
    exact ⟨_, rfl, this⟩
/-- Is it a struct or an array? -/
theorem TabOk.agg (h : TabOk P T) (hg : T.get t = some ti) : ∃ d, P.underlying t = some d ∧ (match d with | .struct _ | .array _ _ => true | _ => false) = isSt ti.kind := by
  have := h.kind hg
  cases hk : ti.kind <;> rw [hk] at this <;> cases hu : P.underlying t with
  | none => simp [kindB, hu] at this
  | some d => refine ⟨d, rfl, ?_⟩; cases d <;> simp [kindB, hu, isSt] at this ⊢
end
end
end Go.Proofs.Ytbgefphoochgcaa.FE
/- FE, part 6: what a small program's run says; operands: looked at, frozen, taken. -/
namespace Go.Proofs.Ytbgefphoochgcaa.FE
open Go
set_option linter.unusedVariables false
set_option linter.unusedSimpArgs false
section
variable {Ω : Type}

def Prg.Runs : S Ω → Prg Ω → List Loc → List Loc → List (Loc × AV Ω) → Prop
  | st, .get l f, acc, rs, ws => Prg.Runs st (f (st.get l)) (l :: acc) rs ws
  | st, .ite b t e, acc, rs, ws => match b with | true => Prg.Runs st t acc rs ws | false => Prg.Runs st e acc rs ws
  | st, .bind m f, acc, rs, ws => ∃ y, m = some y ∧ Prg.Runs st (f y) acc rs ws
  | st, .upd ws1 p, acc, rs, ws => ∃ ws2, ws = ws2 ++ ws1 ∧ Prg.Runs (ws1 ++ st) p acc rs ws2
  | st, .done ws', acc, rs, ws => ws = ws' ∧ rs = acc
  | _, .fail, _, _, _ => False
theorem Prg.runs_of_run {R : Type} {r : R} : ∀ {p : Prg Ω} {st : S Ω} {acc : List Loc} {k : List Loc → List (Loc × AV Ω) → Option R}, p.run st acc k = some r → ∃ rs ws, p.Runs st acc rs ws ∧ k rs ws = some r := by
  intro p
  induction p with
  | get l f ih => intro st acc k h; exact ih _ h
  | ite b t e ht he => intro st acc k h; cases b <;> first | exact ht h | exact he h
  | bind m f ih =>
    intro st acc k h
    simp only [Prg.run, Option.bind_eq_some_iff] at h
    obtain ⟨y, hy, h⟩ := h
    obtain ⟨rs, ws, h1, h2⟩ := ih y h
    exact ⟨rs, ws, ⟨y, hy, h1⟩, h2⟩
  | upd ws1 p ih =>
    intro st acc k h
    obtain ⟨rs, ws, h1, h2⟩ := ih (st := ws1 ++ st) h
    exact ⟨rs, ws ++ ws1, ⟨ws, rfl, h1⟩, h2⟩
  | done ws => intro st acc k h; exact ⟨acc, ws, ⟨rfl, rfl⟩, h⟩
  | fail => intro st acc k h; cases h
theorem Prg.Runs.acc : ∀ {p : Prg Ω} {st : S Ω} {acc rs : List Loc} {ws : List (Loc × AV Ω)}, p.Runs st acc rs ws → ∀ l ∈ acc, l ∈ rs := by
  intro p
  induction p with
  | get l f ih => intro st acc rs ws h l' hl; exact ih _ h l' (List.mem_cons_of_mem _ hl)
  | ite b t e ht he => intro st acc rs ws h; cases b <;> first | exact ht h | exact he h
  | bind m f ih => rintro st acc rs ws ⟨y, _, h⟩; exact ih y h
  | upd ws1 p ih => rintro st acc rs ws ⟨ws2, _, h⟩; exact ih h
  | done ws => rintro st acc rs ws' ⟨_, rfl⟩ l hl; exact hl
  | fail => intro st acc rs ws h; exact h.elim
/-- What a program does hangs on what it reads alone. -/
theorem Prg.Runs.congr : ∀ {p : Prg Ω} {st st' : S Ω} {acc rs : List Loc} {ws : List (Loc × AV Ω)}, p.Runs st acc rs ws → (∀ l ∈ rs, st'.get l = st.get l) → p.Runs st' acc rs ws := by
  intro p
  induction p with
  | get l f ih =>
    intro st st' acc rs ws h hg
    show Prg.Runs st' (f (st'.get l)) (l :: acc) rs ws
    have h' : Prg.Runs st (f (st.get l)) (l :: acc) rs ws := h
    rw [hg l (Prg.Runs.acc h' l List.mem_cons_self)]
    exact ih _ h hg
  | ite b t e ht he => intro st st' acc rs ws h hg; cases b <;> first | exact ht h hg | exact he h hg
  | bind m f ih => rintro st st' acc rs ws ⟨y, hy, h⟩ hg; exact ⟨y, hy, ih y h hg⟩
  | upd ws1 p ih =>
    rintro st st' acc rs ws ⟨ws2, e, h⟩ hg
    exact ⟨ws2, e, ih h fun l hl => by rw [get_append, get_append, hg l hl]⟩
  | done ws => intro st st' acc rs ws' h _; exact h
  | fail => intro st st' acc rs ws h; exact h.elim
theorem runs_opt {β : Type _} {st : S Ω} {m : Option β} {f : β → Prg Ω} {acc rs : List Loc} {ws : List (Loc × AV Ω)} (h : (Prg.opt m f).Runs st acc rs ws) : ∃ y, m = some y ∧ (f y).Runs st acc rs ws := by
  cases m with
  | none => exact h.elim
  | some y => exact ⟨y, rfl, h⟩
theorem runs_putP {st : S Ω} {o : Oper} {u : AV Ω} {acc rs : List Loc} {ws : List (Loc × AV Ω)} (h : (putP o u).Runs st acc rs ws) :
    (∃ d, o.dst = some d ∧ ws = [(.tmp d, u)]) ∨ (o.dst = none ∧ ws = []) := by
  unfold putP at h
  split at h
  · rename_i d hd; exact .inl ⟨d, hd, h.1⟩
  · rename_i hd; exact .inr ⟨hd, h.1⟩

variable {C : CloRep Ω} {G : Ghost} {w : World} {N : Nat} {used : Id → Prop} {st : S Ω} {a : Act}
def opLoc : Operand → Option Loc | .tmp t => some (.tmp t) | _ => none
theorem constAV_rep (v : Value) : RepAV C G w none (constAV (Ω := Ω) v) v := by
  unfold constAV
  split <;> first | exact rfl | trivial
theorem runs_opG (hr : Rep C G N used st a w) {o : Operand} {f : AV Ω → Prg Ω} {acc rs : List Loc} {ws : List (Loc × AV Ω)} (h : (opG o f).Runs st acc rs ws) :
    ∃ v acc', (f v).Runs st acc' rs ws ∧ RepAV C G w (opLoc o) v (a.eval o) ∧ (∀ t, o = .tmp t → v = st.get (.tmp t)) := by
  cases o with
  | tmp t => exact ⟨_, _, h, hr.at_ (.tmp t), fun t' e => by cases e; rfl⟩
  | const v => exact ⟨_, _, h, constAV_rep v, fun t e => by cases e⟩
  | global g => exact h.elim
  | func n => exact ⟨_, _, h, ⟨[], rfl, fun i b c hb => by simp at hb, rfl⟩, fun t e => by cases e⟩
/-- What is owned by nothing here may stand anywhere. -/
def noOwn : AV Ω → Prop
  | .one (.arr _ _ _) | .one (.omp _ _ _ _) => False
  | _ => True
theorem RepAV.any {at_ at' : Option Loc} {u : AV Ω} {v : Value} (hn : noOwn u) (h : RepAV C G w at_ u v) : RepAV C G w at' u v := by
  cases u with
  | one l => cases l <;> first | exact hn.elim | exact h
  | agg ls => exact h
  | tup ps => exact h
theorem Step.refl' (hr : Rep C G N used st a w) (L : Loc → Prop) : Step G w G w L := Step.refl hr.box' hr.lt
theorem Rep.mono (hr : Rep C G N used st a w) {used' : Id → Prop} (h : ∀ id, used id → used' id) : Rep C G N used' st a w :=
  ⟨hr.at_, hr.size, hr.defers, hr.box, fun id hi => h id (hr.usedΓ id hi), fun id hi => h id (hr.usedβ id hi), hr.lt⟩
theorem Rep.congr (hr : Rep C G N used st a w) {st' : S Ω} (h : ∀ l, st'.get l = st.get l) : Rep C G N used st' a w :=
  ⟨fun l => by rw [h l]; exact hr.at_ l, hr.size, hr.defers, hr.box, hr.usedΓ, hr.usedβ, hr.lt⟩

/-! ### what stands at a place -/
theorem RepAt.arr {l : Loc} {id : Id} {e : Ty} {xs : List (El e)} (h : RepAt C G a w l (.one (.arr id e xs))) : ∃ v, (∃ bs, G.Γ id = some (v, bs)) ∧ ArrRep G.ρ w (.at_ l) e xs v := by
  cases l with
  | tmp t => obtain ⟨l', e1, e2, h⟩ := h; cases e1; exact ⟨_, e2, h⟩
  | comp t i => 
    rcases h with h | ⟨v, l', e1, e2, h⟩
    · cases h
    · cases e1; exact ⟨_, e2, h⟩
  | box id' j => 
    rcases h with h | ⟨b, n, v, _, _, l', e1, e2, h⟩
    · cases h
    · cases e1; exact ⟨_, e2, h⟩
  | om => rcases h with h | ⟨s, h, _⟩ <;> cases h
theorem RepAt.omp {l : Loc} {id : Id} {k v : Ty} {m : List (El k × El v)} (h : RepAt C G a w l (.one (.omp id k v m))) : ∃ u bs, G.Γ id = some (u, bs) ∧ MapRep G.ρ w (.at_ l) k v m u bs := by
  cases l with
  | tmp t => obtain ⟨l', bs, e1, e2, h⟩ := h; cases e1; exact ⟨_, bs, e2, h⟩
  | comp t i => 
    rcases h with h | ⟨v, l', bs, e1, e2, h⟩
    · cases h
    · cases e1; exact ⟨_, bs, e2, h⟩
  | box id' j => 
    rcases h with h | ⟨b, n, v, _, _, l', bs, e1, e2, h⟩
    · cases h
    · cases e1; exact ⟨_, bs, e2, h⟩
  | om => rcases h with h | ⟨s, h, _⟩ <;> cases h

/-! ### an owned block becomes free, or another's -/
/-- The blocks that a place owns go to another owner, or to none. -/
def Ghost.give (G : Ghost) (l : Loc) (o : Option Loc) : Ghost := { G with ρ := fun b => match G.ρ b with | some (.at_ l') => (match locB l' l with | true => o.map Own.at_ | false => some (.at_ l')) | r => r }
theorem give_at {l : Loc} {o : Option Loc} {b : Nat} (h : G.ρ b = some (.at_ l)) : (G.give l o).ρ b = o.map Own.at_ := by simp [Ghost.give, h, locB_self]
theorem give_ne {l l' : Loc} {o : Option Loc} {b : Nat} (hne : l' ≠ l) (h : G.ρ b = some (.at_ l')) : (G.give l o).ρ b = some (.at_ l') := by simp [Ghost.give, h, locB_ne hne]
theorem give_other {l : Loc} {o : Option Loc} {b : Nat} {r : Option Own} (hr : ∀ l', r ≠ some (.at_ l')) (h : G.ρ b = r) : (G.give l o).ρ b = r := by
  subst h
  unfold Ghost.give
  cases e : G.ρ b with
  | none => simp [e]
  | some x => cases x with
    | at_ l' => exact absurd e (hr l')
    | _ => simp [e]
theorem give_O {l : Loc} {o : Option Loc} {b : Nat} (h : (G.give l o).O b) : G.O b := by
  intro e
  exact h (give_other (by intro l' h; cases h) e)
theorem give_step (hr : Rep C G N used st a w) {l : Loc} {o : Option Loc} {L : Loc → Prop} (hl : L l) : Step G w (G.give l o) w L where
  Γ _ _ h := h
  β _ _ h := h
  os := rfl
  tape := rfl
  output := rfl
  size := Nat.le_refl _
  free b _ h := ⟨rfl, fun h' => h (fun e => h' (give_other (by intro l' h; cases h) e))⟩
  own b l' h hn := ⟨rfl, give_ne (fun e => hn (e ▸ hl)) h⟩
  ext b h := ⟨rfl, give_other (by intro l' h; cases h) h⟩
  om b h _ := ⟨rfl, give_other (by intro l' h; cases h) h⟩
  bx b n id h := ⟨give_other (by intro l' h; cases h) (hr.box id b n h).1, (hr.box id b n h).2, fun _ _ => rfl⟩
  lt b h := hr.lt b (give_O h)
  omr b _ h hn := by
    cases hb : G.ρ b with
    | none => rw [give_other (by intro l' h; cases h) hb] at h; cases h
    | some o' =>
      cases o' with
      | at_ l' =>
        exfalso
        by_cases e : l' = l
        · subst e
          rw [give_at hb] at h
          cases o <;> cases h
        · rw [give_ne e hb] at h; cases h
      | om => exact rfl
      | _ => rw [give_other (by intro l' h; cases h) hb] at h; cases h
theorem give_free (hr : Rep C G N used st a w) {l : Loc} {o : Option Loc} : Free w G.O w (G.give l o).O := (give_step hr (L := fun _ => True) trivial).free
theorem RepAt.map {G' : Ghost} {l : Loc} {x y : Leaf Ω} (h : RepAt C G a w l (.one x)) (hx : x ≠ .dead) (ho : ∀ s, x ≠ .opq s) (hβ : ∀ id b, G.β id = some b → G'.β id = some b)
    (hm : ∀ v, RepL C G w (some l) x v → RepL C G' w (some l) y v) : RepAt C G' a w l (.one y) := by
  cases l with
  | tmp t => exact hm _ h
  | comp t i =>
    rcases h with h | ⟨v, h⟩
    · cases h; exact absurd rfl hx
    · exact .inr ⟨v, hm v h⟩
  | box id j =>
    rcases h with h | ⟨b, n, v, hb, hc, h⟩
    · cases h; exact absurd rfl hx
    · exact .inr ⟨b, n, v, hβ _ _ hb, hc, hm v h⟩
  | om =>
    rcases h with h | ⟨s, e, h⟩
    · cases h; exact absurd rfl hx
    · cases e; exact absurd rfl (ho s)
theorem RepAt.dead {l : Loc} : RepAt C G a w l (.one .dead) := by
  cases l with
  | tmp t => trivial
  | _ => exact .inl rfl
theorem ArrRep.data {l : Loc} {e : Ty} {xs : List (El e)} {v : Value} (h : ArrRep G.ρ w (.at_ l) e xs v) {O' : Nat → Prop} (hf : ∀ b, ¬ G.O b → ¬ O' b) (hb : ∀ b, G.ρ b = some (.at_ l) → ¬ O' b) : RepC w O' (.sl e) xs [v] := by
  have hfree : Free w G.O w O' := fun b _ ho => ⟨rfl, hf b ho⟩
  rcases h with ⟨rfl, rfl⟩ | ⟨b, off, cap, c, el, rfl, hc, hρ, hh, hsz, hx⟩
  · exact ⟨none, 0, rfl, Nat.le_refl _, fun h => absurd rfl h⟩
  · refine ⟨_, cap, rfl, hc, fun _ => ⟨b, off, rfl, hb b hρ, fun j hj => ?_⟩⟩
    obtain ⟨vs, hr, hat⟩ := hx j hj
    exact ⟨vs, hr.mono hfree, c, el, _, hh, hat⟩
theorem MapRep.data {l : Loc} {k v : Ty} {m : List (El k × El v)} {u : Value} {bs : List Nat} (h : MapRep G.ρ w (.at_ l) k v m u bs) {O' : Nat → Prop} (hf : ∀ b, ¬ G.O b → ¬ O' b) (hb : ∀ b, G.ρ b = some (.at_ l) → ¬ O' b) : RepC w O' (.mp k v) m [u] := by
  have hfree : Free w G.O w O' := fun b _ ho => ⟨rfl, hf b ho⟩
  obtain ⟨b, es, clock, rfl, hρ, hh, hsz, _, hx, _⟩ := h
  exact ⟨some b, rfl, .inr ⟨b, es, clock, rfl, hb b hρ, hh, hsz, fun j hj => let ⟨en, he, h1, h2⟩ := hx j hj; ⟨en, he, h1.mono hfree, h2.mono hfree⟩⟩⟩
/-- A place's owned value becomes data: a step of the ghosts alone. -/
theorem Rep.freezeArr (hr : Rep C G N used st a w) {l : Loc} {id : Id} {e : Ty} {xs : List (El e)} (hl : st.get l = .one (.arr id e xs)) :
    Rep C (G.give l none) N used ([(l, .one (.dat (.sl e) xs))] ++ st) a w ∧ ∀ v, (∃ bs, G.Γ id = some (v, bs)) → RepC w (G.give l none).O (.sl e) xs [v] := by
  have hat := hr.at_ l
  rw [hl] at hat
  have hd : ∀ {v}, ArrRep G.ρ w (.at_ l) e xs v → RepC w (G.give l none).O (.sl e) xs [v] := fun h => h.data (fun b hb h' => hb (give_O h')) (fun b hb h' => h' (give_at hb))
  refine ⟨?_, fun v hv => ?_⟩
  · refine Rep.step hr (give_step hr (by simp [inL, locB_self])) (fun l' hl' => ?_) (fun _ _ => rfl) hr.size hr.defers (fun _ _ _ h => .inl h) hr.usedΓ hr.usedβ
    obtain rfl : l' = l := by simpa [inL_iff] using hl'
    have : S.get [(l', AV.one (Leaf.dat (Ω := Ω) (.sl e) xs))] l' = .one (.dat (.sl e) xs) := by simp [S.get, locB_self]
    rw [this]
    refine hat.map (by simp) (by simp) (fun _ _ h => h) fun v hv => ?_
    obtain ⟨l2, e1, _, h⟩ := hv
    cases e1
    exact hd h
  · obtain ⟨v', ⟨bs, h1⟩, h2⟩ := hat.arr
    obtain ⟨bs', h3⟩ := hv
    rw [h1] at h3
    cases h3
    exact hd h2
theorem Rep.freezeMap (hr : Rep C G N used st a w) {l : Loc} {id : Id} {k v : Ty} {m : List (El k × El v)} (hl : st.get l = .one (.omp id k v m)) :
    Rep C (G.give l none) N used ([(l, .one (.dat (.mp k v) m))] ++ st) a w ∧ ∀ u, (∃ bs, G.Γ id = some (u, bs)) → RepC w (G.give l none).O (.mp k v) m [u] := by
  have hat := hr.at_ l
  rw [hl] at hat
  have hd : ∀ {u bs}, MapRep G.ρ w (.at_ l) k v m u bs → RepC w (G.give l none).O (.mp k v) m [u] := fun h => h.data (fun b hb h' => hb (give_O h')) (fun b hb h' => h' (give_at hb))
  refine ⟨?_, fun u hu => ?_⟩
  · refine Rep.step hr (give_step hr (by simp [inL, locB_self])) (fun l' hl' => ?_) (fun _ _ => rfl) hr.size hr.defers (fun _ _ _ h => .inl h) hr.usedΓ hr.usedβ
    obtain rfl : l' = l := by simpa [inL_iff] using hl'
    have : S.get [(l', AV.one (Leaf.dat (Ω := Ω) (.mp k v) m))] l' = .one (.dat (.mp k v) m) := by simp [S.get, locB_self]
    rw [this]
    refine hat.map (by simp) (by simp) (fun _ _ h => h) fun u hu => ?_
    obtain ⟨l2, bs, e1, _, h⟩ := hu
    cases e1
    exact hd h
  · obtain ⟨u', bs, h1, h2⟩ := hat.omp
    obtain ⟨bs', h3⟩ := hu
    rw [h1] at h3
    cases h3
    exact hd h2
/-- A place's owned value goes elsewhere: nothing is left there. -/
theorem Rep.takeAt (hr : Rep C G N used st a w) (l : Loc) (o : Option Loc) : Rep C (G.give l o) N used ([(l, .one .dead)] ++ st) a w := by
  refine Rep.step hr (give_step hr (by simp [inL, locB_self])) (fun l' hl' => ?_) (fun _ _ => rfl) hr.size hr.defers (fun _ _ _ h => .inl h) hr.usedΓ hr.usedβ
  obtain rfl : l' = l := by simpa [inL_iff] using hl'
  have : S.get [(l', AV.one (Leaf.dead (Ω := Ω)))] l' = .one .dead := by simp [S.get, locB_self]
  rw [this]
  exact RepAt.dead
theorem ArrRep.give (hr : Rep C G N used st a w) {l l' : Loc} {e : Ty} {xs : List (El e)} {v : Value} (h : ArrRep G.ρ w (.at_ l) e xs v) : ArrRep (G.give l (some l')).ρ w (.at_ l') e xs v := by
  rcases h with h | ⟨b, off, cap, c, el, hv, hc, hb, hh, hsz, hx⟩
  · exact .inl h
  · exact .inr ⟨b, off, cap, c, el, hv, hc, give_at hb, hh, hsz, fun j hj => let ⟨vs, hv, hat⟩ := hx j hj; ⟨vs, hv.mono (give_free hr), hat⟩⟩
theorem MapRep.give (hr : Rep C G N used st a w) {l l' : Loc} {k v : Ty} {m : List (El k × El v)} {u : Value} {bs : List Nat} (h : MapRep G.ρ w (.at_ l) k v m u bs) : MapRep (G.give l (some l')).ρ w (.at_ l') k v m u bs := by
  obtain ⟨b, es, clock, hu, hb, hh, hsz, hbs, hx, hr'⟩ := h
  exact ⟨b, es, clock, hu, give_at hb, hh, hsz, hbs, fun j hj => let ⟨en, he, h1, h2⟩ := hx j hj; ⟨en, he, h1.mono (give_free hr), h2.mono (give_free hr)⟩, hr'⟩
end
end Go.Proofs.Ytbgefphoochgcaa.FE
/- FE, part 7: operands that are looked at, frozen, taken; parts of slices. -/
namespace Go.Proofs.Ytbgefphoochgcaa.FE
open Go
set_option linter.unusedVariables false
set_option linter.unusedSimpArgs false
section
variable {Ω : Type} {C : CloRep Ω} {G : Ghost} {w : World} {N : Nat} {used : Id → Prop} {st : S Ω} {a : Act}

theorem add_none (b off n : Nat) : (⟨b, off, none⟩ : Addr).add n = ⟨b, off + n, none⟩ := by
  unfold Addr.add; split <;> simp_all
theorem cut_some {α : Type} {xs ys : List α} {lo hi : Int} (h : cut xs lo hi = some ys) : 0 ≤ lo ∧ lo ≤ hi ∧ hi ≤ (xs.length : Int) ∧ ys = (xs.take hi.toNat).drop lo.toNat := by
  unfold cut at h
  split at h
  · rename_i e
    simp only [Bool.and_eq_true, decide_eq_true_eq] at e
    cases h
    exact ⟨e.1, e.2.1, e.2.2, rfl⟩
  · cases h
theorem cut_len {α : Type} {xs ys : List α} {lo hi : Int} (h : cut xs lo hi = some ys) : ys.length = (hi - lo).toNat := by
  obtain ⟨h1, h2, h3, rfl⟩ := cut_some h
  simp only [List.length_drop, List.length_take]
  omega
theorem cut_get {α : Type} {xs ys : List α} {lo hi : Int} (h : cut xs lo hi = some ys) {j : Nat} (hj : j < ys.length) : ∃ h' : lo.toNat + j < xs.length, ys[j] = xs[lo.toNat + j] := by
  have hl := cut_len h
  obtain ⟨h1, h2, h3, rfl⟩ := cut_some h
  refine ⟨by omega, ?_⟩
  simp only [List.getElem_drop, List.getElem_take]
theorem ArrRep.header {ρ : Nat → Option Own} {o : Own} {e : Ty} {xs : List (El e)} {v : Value} (h : ArrRep ρ w o e xs v) : ∃ ad cap, v = .slice ad xs.length cap ∧ xs.length ≤ cap := by
  rcases h with ⟨rfl, rfl⟩ | ⟨b, off, cap, c, el, rfl, hc, _⟩
  · exact ⟨none, 0, rfl, Nat.le_refl _⟩
  · exact ⟨_, cap, rfl, hc⟩
def cutV (ad : Option Addr) (cap sz : Nat) (lo hi : Int) : Value := .slice (if (cap : Int) = lo then ad else ad.map (·.add (lo.toNat * sz))) (hi - lo).toNat (cap - lo.toNat)
theorem ArrRep.cut {ρ : Nat → Option Own} {o : Own} {e : Ty} {xs ys : List (El e)} {ad : Option Addr} {len cap : Nat} {lo hi : Int} (h : ArrRep ρ w o e xs (.slice ad len cap)) (hc : cut xs lo hi = some ys) :
    ArrRep ρ w o e ys (cutV ad cap (width e) lo hi) := by
  have hl := cut_len hc
  obtain ⟨h1, h2, h3, hys⟩ := cut_some hc
  rcases h with ⟨rfl, hv⟩ | ⟨b, off, cap', c, el, hv, hcap, hb, hh, hsz, hx⟩
  · cases hv
    simp only [List.length_nil, Int.natCast_zero] at h3
    obtain rfl : lo = 0 := by omega
    obtain rfl : hi = 0 := by omega
    left
    refine ⟨by rw [hys]; simp, ?_⟩
    simp [cutV]
  · cases hv
    right
    have hle : lo.toNat + ys.length ≤ xs.length := by omega
    unfold cutV
    rw [← hl]
    by_cases he : (cap : Int) = lo
    · rw [if_pos he]
      refine ⟨b, off, cap - lo.toNat, c, el, rfl, by omega, hb, hh, ?_, fun j hj => by omega⟩
      have : cap - lo.toNat = 0 := by omega
      rw [this]; omega
    · rw [if_neg he]
      simp only [Option.map_some, add_none]
      refine ⟨b, off + lo.toNat * width e, cap - lo.toNat, c, el, rfl, by omega, hb, hh, ?_, fun j hj => ?_⟩
      · have : lo.toNat * width e + (cap - lo.toNat) * width e = cap * width e := by rw [← Nat.add_mul]; congr 1; omega
        omega
      · obtain ⟨h', e'⟩ := cut_get hc hj
        obtain ⟨vs, hr, hat⟩ := hx (lo.toNat + j) h'
        refine ⟨vs, by rw [e']; exact hr, fun i v hi => ?_⟩
        have := hat i v hi
        rw [Nat.add_mul] at this
        rw [← this]; congr 1; omega
theorem RepC.cut {O : Nat → Prop} {e : Ty} {xs ys : List (El e)} {ad : Option Addr} {len cap : Nat} {lo hi : Int} (h : RepC w O (.sl e) xs [.slice ad len cap]) (hc : cut xs lo hi = some ys) :
    RepC w O (.sl e) ys [cutV ad cap (width e) lo hi] := by
  have hl := cut_len hc
  obtain ⟨h1, h2, h3, hys⟩ := cut_some hc
  obtain ⟨a', cap', hv, hcap, hx⟩ := h
  simp only [List.cons.injEq, Value.slice.injEq, and_true] at hv
  obtain ⟨rfl, rfl, rfl⟩ := hv
  refine ⟨if (cap : Int) = lo then ad else ad.map (·.add (lo.toNat * width e)), cap - lo.toNat, by rw [hl]; rfl, by omega, fun hne => ?_⟩
  have hlen : 0 < ys.length := List.length_pos_iff.mpr hne
  obtain ⟨b, off, rfl, hb, hx⟩ := hx (by intro e'; subst e'; simp at h3; omega)
  rw [if_neg (by omega)]
  simp only [Option.map_some, add_none]
  refine ⟨b, _, rfl, hb, fun j hj => ?_⟩
  obtain ⟨h', e'⟩ := cut_get hc hj
  obtain ⟨l, hr, hat⟩ := hx (lo.toNat + j) h'
  refine ⟨l, by rw [e']; exact hr, ?_⟩
  rw [Nat.add_mul] at hat
  rwa [Nat.add_assoc]
theorem ali_arr (hr : Rep C G N used st a w) {l : Loc} {id id' : Id} {e : Ty} {xs : List (El e)} {v : Value} (hv : ∃ bs, G.Γ id = some (v, bs)) (hl : st.get l = .one (.arr id' e xs)) (hid : idB id id' = true) : ArrRep G.ρ w (.at_ l) e xs v := by
  obtain rfl := idB_iff.1 hid
  have hat := hr.at_ l
  rw [hl] at hat
  obtain ⟨v', ⟨bs, h1⟩, h2⟩ := hat.arr
  obtain ⟨bs', h3⟩ := hv
  rw [h1] at h3
  cases h3
  exact h2
theorem ali_omp (hr : Rep C G N used st a w) {l : Loc} {id id' : Id} {k v : Ty} {m : List (El k × El v)} {u : Value} {bs : List Nat} (hv : G.Γ id = some (u, bs)) (hl : st.get l = .one (.omp id' k v m)) (hid : idB id id' = true) : MapRep G.ρ w (.at_ l) k v m u bs := by
  obtain rfl := idB_iff.1 hid
  have hat := hr.at_ l
  rw [hl] at hat
  obtain ⟨u', bs', h1, h2⟩ := hat.omp
  rw [h1] at hv
  cases hv
  exact h2
/-- Only ghosts move: what owns nothing stands for the same. -/
abbrev Moves (G : Ghost) (w : World) (G' : Ghost) : Prop := Step G w G' w (fun l => l ≠ .om)
theorem give_moves (hr : Rep C G N used st a w) (l : Loc) (o : Option Loc) (hl : l ≠ .om) : Moves G w (G.give l o) := give_step hr hl
theorem arr_ne (hr : Rep C G N used st a w) {l : Loc} {id : Id} {e : Ty} {xs : List (El e)} (h : st.get l = .one (.arr id e xs)) : l ≠ .om := by
  rintro rfl
  have := hr.at_ .om
  rw [h] at this
  rcases this with h | ⟨s, h, _⟩ <;> cases h
theorem omp_ne (hr : Rep C G N used st a w) {l : Loc} {id : Id} {k v : Ty} {m : List (El k × El v)} (h : st.get l = .one (.omp id k v m)) : l ≠ .om := by
  rintro rfl
  have := hr.at_ .om
  rw [h] at this
  rcases this with h | ⟨s, h, _⟩ <;> cases h
theorem RepAV.moves {G' : Ghost} (hm : Moves G w G') {u : AV Ω} {v : Value} (h : RepAV C G w none u v) : RepAV C G' w none u v := h.step hm (fun l e => by cases e)
theorem avw_inv {l : Loc} {id : Id} {sz : Nat} {lo hi : Int} {v : Value} (h : RepL C G w none (.avw l id sz lo hi : Leaf Ω) v) : ∃ ad len cap, (∃ bs, G.Γ id = some (.slice ad len cap, bs)) ∧ 0 ≤ lo ∧ lo ≤ hi ∧ hi ≤ (len : Int) ∧ len ≤ cap ∧ v = cutV ad cap sz lo hi := by
  obtain ⟨ad, len, cap, bs, h1, h2⟩ := h
  exact ⟨ad, len, cap, ⟨bs, h1⟩, h2⟩
/-- Frozen: what is handed on is data, and the state says so. -/
theorem Step.moves {G' G'' : Ghost} (h0 : Moves G w G') (k : Moves G' w G'') : Moves G w G'' where
  Γ i v e := k.Γ i v (h0.Γ i v e)
  β i b e := k.β i b (h0.β i b e)
  os := rfl
  tape := rfl
  output := rfl
  size := Nat.le_refl _
  free b hb ho := ⟨rfl, (k.free b hb (h0.free b hb ho).2).2⟩
  own b l e hn := ⟨rfl, (k.own b l (h0.own b l e hn).2 hn).2⟩
  ext b e := ⟨rfl, (k.ext b (h0.ext b e).2).2⟩
  om b e hn := ⟨rfl, (k.om b (h0.om b e hn).2 hn).2⟩
  bx b n i e := ⟨(k.bx b n i (h0.β i _ e)).1, (h0.bx b n i e).2.1, fun j _ => rfl⟩
  lt := k.lt
  omr b hb h hn := h0.omr b hb (k.omr b hb h hn) hn
theorem runs_freeze1 (hr : Rep C G N used st a w) {o : Operand} {v : AV Ω} {x : Value} (hv : RepAV C G w (opLoc o) v x) (hsrc : ∀ t, o = .tmp t → v = st.get (.tmp t))
    {f : AV Ω → Prg Ω} {acc rs : List Loc} {ws : List (Loc × AV Ω)} (h : (freeze1 o v f).Runs st acc rs ws) :
    ∃ u ws' ws2 acc' G1, ws = ws2 ++ ws' ∧ (f u).Runs (ws' ++ st) acc' rs ws2 ∧ Moves G w G1 ∧ G1.Γ = G.Γ ∧ G1.β = G.β ∧ Rep C G1 N used (ws' ++ st) a w ∧ RepAV C G1 w none u x ∧ noOwn u := by
  have plain : ∀ {acc}, noOwn v → (f v).Runs st acc rs ws → ∃ u ws' ws2 acc' G1, ws = ws2 ++ ws' ∧ (f u).Runs (ws' ++ st) acc' rs ws2 ∧ Moves G w G1 ∧ G1.Γ = G.Γ ∧ G1.β = G.β ∧ Rep C G1 N used (ws' ++ st) a w ∧ RepAV C G1 w none u x ∧ noOwn u :=
    fun hn h => ⟨v, [], ws, _, G, by simp, h, Step.refl' hr _, rfl, rfl, hr, hv.any hn, hn⟩
  cases v with
  | agg ls => exact plain trivial h
  | tup ps => exact plain trivial h
  | one lf =>
    cases lf with
    | ali l id =>
      have h' : Prg.Runs st (match st.get l with
        | .one (.arr id' e xs) => (match idB id id' with | true => .upd [(l, .one (.dat (.sl e) xs))] (f (.one (.dat (.sl e) xs))) | false => .fail)
        | .one (.omp id' a b m) => (match idB id id' with | true => .upd [(l, .one (.dat (.mp a b) m))] (f (.one (.dat (.mp a b) m))) | false => .fail)
        | _ => .fail) (l :: acc) rs ws := h
      split at h'
      · rename_i id' e xs hl
        split at h'
        · rename_i hid
          obtain rfl := idB_iff.1 hid
          obtain ⟨ws2, rfl, h'⟩ := h'
          obtain ⟨h1, h2⟩ := hr.freezeArr hl
          exact ⟨_, _, _, _, _, rfl, h', give_moves hr _ _ (arr_ne hr hl), rfl, rfl, h1, h2 x hv.1, trivial⟩
        · exact h'.elim
      · rename_i id' k v m hl
        split at h'
        · rename_i hid
          obtain rfl := idB_iff.1 hid
          obtain ⟨ws2, rfl, h'⟩ := h'
          obtain ⟨h1, h2⟩ := hr.freezeMap hl
          exact ⟨_, _, _, _, _, rfl, h', give_moves hr _ _ (omp_ne hr hl), rfl, rfl, h1, h2 x hv.1, trivial⟩
        · exact h'.elim
      · exact h'.elim
    | avw l id sz lo hi =>
      have h' : Prg.Runs st (match st.get l with
        | .one (.arr id' e xs) => (match and (idB id id') (Nat.beq sz (width e)) with | true => .bind (cut xs lo hi) fun ys => .upd [(l, .one (.dat (.sl e) xs))] (f (.one (.dat (.sl e) ys))) | false => .fail)
        | _ => .fail) (l :: acc) rs ws := h
      split at h'
      · rename_i id' e xs hl
        split at h'
        · rename_i hid
          rw [Bool.and_eq_true] at hid
          obtain rfl := idB_iff.1 hid.1
          obtain rfl := Nat.eq_of_beq_eq_true hid.2
          obtain ⟨ys, hc, ws2, rfl, h'⟩ := h'
          obtain ⟨h1, h2⟩ := hr.freezeArr hl
          obtain ⟨ad, len, cap, hΓ, _, _, _, _, rfl⟩ := avw_inv (C := C) (w := w) (l := l) hv
          exact ⟨_, _, _, _, _, rfl, h', give_moves hr _ _ (arr_ne hr hl), rfl, rfl, h1, (h2 _ hΓ).cut hc, trivial⟩
        · exact h'.elim
      · exact h'.elim
    | arr id e xs =>
      cases o with
      | tmp t =>
        have h2 : Prg.Runs st (.upd [(.tmp t, .one (.dat (.sl e) xs))] (f (.one (.dat (.sl e) xs)))) acc rs ws := h
        obtain ⟨ws2, rfl, h'⟩ := h2
        obtain ⟨l', e1, hΓ, _⟩ := hv
        obtain ⟨h1, h2⟩ := hr.freezeArr (hsrc t rfl).symm
        exact ⟨_, _, _, _, _, rfl, h', give_moves hr _ _ (fun e => by cases e), rfl, rfl, h1, h2 _ hΓ, trivial⟩
      | _ => exact h.elim
    | omp id k v m =>
      cases o with
      | tmp t =>
        have h2 : Prg.Runs st (.upd [(.tmp t, .one (.dat (.mp k v) m))] (f (.one (.dat (.mp k v) m)))) acc rs ws := h
        obtain ⟨ws2, rfl, h'⟩ := h2
        obtain ⟨l', bs, e1, hΓ, _⟩ := hv
        obtain ⟨h1, h2⟩ := hr.freezeMap (hsrc t rfl).symm
        exact ⟨_, _, _, _, _, rfl, h', give_moves hr _ _ (fun e => by cases e), rfl, rfl, h1, h2 _ ⟨bs, hΓ⟩, trivial⟩
      | _ => exact h.elim
    | _ => exact plain trivial h
theorem runs_freezeLs {rs : List Loc} : ∀ (ls : List (Leaf Ω)) {vs : List Value} {G : Ghost} {st : S Ω} {f : List (Leaf Ω) → Prg Ω} {acc : List Loc} {ws : List (Loc × AV Ω)}, Rep C G N used st a w → All2 (RepL C G w none) ls vs → (freezeLs ls f).Runs st acc rs ws →
    ∃ us ws' ws2 acc' G1, ws = ws2 ++ ws' ∧ (f us).Runs (ws' ++ st) acc' rs ws2 ∧ Moves G w G1 ∧ G1.Γ = G.Γ ∧ G1.β = G.β ∧ Rep C G1 N used (ws' ++ st) a w ∧ All2 (RepL C G1 w none) us vs
  | [], vs, G, st, f, acc, ws, hr, hv, h => ⟨[], [], ws, _, G, by simp, h, Step.refl' hr _, rfl, rfl, hr, hv⟩
  | l :: r, _, G, st, f, acc, ws, hr, .cons h1 h2, h => by
    obtain ⟨u, ws', ws2, acc2, G1, rfl, h, hm, hΓ, hβ, hr1, hu, hn⟩ := runs_freeze1 (o := .const (.bool true)) (v := .one l) hr h1 (fun t e => by cases e) h
    cases u with
    | one l' =>
      obtain ⟨us, ws3, ws4, acc3, G2, rfl, h, hm2, hΓ2, hβ2, hr2, hus⟩ := runs_freezeLs r hr1 (h2.mono fun x y h => RepL.step hm (fun _ e => by cases e) h) h
      exact ⟨l' :: us, ws3 ++ ws', ws4, acc3, G2, by rw [List.append_assoc], by rw [List.append_assoc]; exact h, hm.moves hm2, hΓ2.trans hΓ, hβ2.trans hβ, by rw [List.append_assoc]; exact hr2, .cons (RepL.step hm2 (fun _ e => by cases e) hu) hus⟩
    | _ => exact h.elim
theorem runs_freeze (hr : Rep C G N used st a w) {o : Operand} {v : AV Ω} {x : Value} (hv : RepAV C G w (opLoc o) v x) (hsrc : ∀ t, o = .tmp t → v = st.get (.tmp t))
    {f : AV Ω → Prg Ω} {acc rs : List Loc} {ws : List (Loc × AV Ω)} (h : (freeze o v f).Runs st acc rs ws) :
    ∃ u ws' ws2 acc' G1, ws = ws2 ++ ws' ∧ (f u).Runs (ws' ++ st) acc' rs ws2 ∧ Moves G w G1 ∧ G1.Γ = G.Γ ∧ G1.β = G.β ∧ Rep C G1 N used (ws' ++ st) a w ∧ RepAV C G1 w none u x ∧ noOwn u := by
  cases v with
  | agg ls =>
    obtain ⟨vs, rfl, hv⟩ := hv
    obtain ⟨us, ws', ws2, acc', G1, e, h, hm, hΓ, hβ, hr1, hus⟩ := runs_freezeLs ls hr hv h
    exact ⟨.agg us, ws', ws2, acc', G1, e, h, hm, hΓ, hβ, hr1, ⟨vs, rfl, hus⟩, trivial⟩
  | one l => exact runs_freeze1 hr hv hsrc h
  | tup ps => exact ⟨.tup ps, [], ws, _, G, by simp, h, Step.refl' hr _, rfl, rfl, hr, hv.any trivial, trivial⟩

/-- A new id, with its value. -/
def Ghost.name (G : Ghost) (id : Id) (v : Value) (bs : List Nat) : Ghost := { G with Γ := fun i => match idB id i with | true => some (v, bs) | false => G.Γ i }
theorem name_at {id : Id} {v : Value} {bs : List Nat} : (G.name id v bs).Γ id = some (v, bs) := by simp [Ghost.name, idB_iff.2 rfl]
theorem name_ne {id id' : Id} {v : Value} {bs : List Nat} (h : id ≠ id') : (G.name id v bs).Γ id' = G.Γ id' := by
  have : idB id id' = false := by
    cases e : idB id id'
    · rfl
    · exact absurd (idB_iff.1 e) h
  simp [Ghost.name, this]
theorem name_step (hr : Rep C G N used st a w) {id : Id} (hid : ¬ used id) (v : Value) (bs : List Nat) (L : Loc → Prop) : Step G w (G.name id v bs) w L where
  Γ i u h := by
    rw [name_ne, h]
    intro e
    subst e
    exact hid (hr.usedΓ _ (by rw [h]; simp))
  β _ _ h := h
  os := rfl
  tape := rfl
  output := rfl
  size := Nat.le_refl _
  free := Free.refl _ _
  own _ _ h _ := ⟨rfl, h⟩
  ext _ h := ⟨rfl, h⟩
  om _ h _ := ⟨rfl, h⟩
  bx b n i h := ⟨(hr.box i b n h).1, (hr.box i b n h).2, fun _ _ => rfl⟩
  lt := hr.lt
  omr _ _ h _ := h
theorem Rep.name (hr : Rep C G N used st a w) {id : Id} (hid : ¬ used id) (v : Value) (bs : List Nat) {used' : Id → Prop} (hu : ∀ i, used i → used' i) (hi : used' id) : Rep C (G.name id v bs) N used' st a w := by
  refine Rep.step (ws := []) hr (name_step hr hid v bs _) (fun l hl => by simp [inL] at hl) (fun _ _ => rfl) hr.size hr.defers (fun _ _ _ h => .inl h) (fun i h => ?_) (fun i h => hu i (hr.usedβ i h))
  by_cases e : id = i
  · exact e ▸ hi
  · rw [name_ne e] at h
    exact hu i (hr.usedΓ i h)
/-- Taken: what is handed on may be put at l'. -/
theorem runs_take (hr : Rep C G N used st a w) {o : Operand} {v : AV Ω} {x : Value} (hv : RepAV C G w (opLoc o) v x) (hsrc : ∀ t, o = .tmp t → v = st.get (.tmp t)) (l' : Loc) {nid : Id} (hid : ¬ used nid)
    {used' : Id → Prop} (hu : ∀ i, used i → used' i) (hnu : used' nid)
    {f : AV Ω → Prg Ω} {acc rs : List Loc} {ws : List (Loc × AV Ω)} (h : (takeV o nid v f).Runs st acc rs ws) :
    ∃ u ws' ws2 acc' G1, ws = ws2 ++ ws' ∧ (f u).Runs (ws' ++ st) acc' rs ws2 ∧ Moves G w G1 ∧ G1.β = G.β ∧ Rep C G1 N used' (ws' ++ st) a w ∧ RepAV C G1 w (some l') u x := by
  have plain : ∀ {acc}, noOwn v → (f v).Runs st acc rs ws → ∃ u ws' ws2 acc' G1, ws = ws2 ++ ws' ∧ (f u).Runs (ws' ++ st) acc' rs ws2 ∧ Moves G w G1 ∧ G1.β = G.β ∧ Rep C G1 N used' (ws' ++ st) a w ∧ RepAV C G1 w (some l') u x :=
    fun hn h => ⟨v, [], ws, _, G, by simp, h, Step.refl' hr _, rfl, hr.mono hu, hv.any hn⟩
  cases v with
  | agg ls => exact plain trivial h
  | tup ps => exact plain trivial h
  | one lf =>
    cases lf with
    | ali l id =>
      have h' : Prg.Runs st (match st.get l with
        | .one (.arr id' e xs) => (match idB id id' with | true => .upd [(l, .one .dead)] (f (.one (.arr id' e xs))) | false => .fail)
        | .one (.omp id' a b m) => (match idB id id' with | true => .upd [(l, .one .dead)] (f (.one (.omp id' a b m))) | false => .fail)
        | _ => .fail) (l :: acc) rs ws := h
      split at h'
      · rename_i id' e xs hl
        split at h'
        · rename_i hid'
          have ha := ali_arr hr hv.1 hl hid'
          obtain rfl := idB_iff.1 hid'
          obtain ⟨ws2, rfl, h'⟩ := h'
          exact ⟨_, _, _, _, _, rfl, h', give_moves hr _ (some l') (arr_ne hr hl), rfl, (hr.takeAt l _).mono hu, l', rfl, hv.1, ha.give hr⟩
        · exact h'.elim
      · rename_i id' k v m hl
        split at h'
        · rename_i hid'
          obtain ⟨⟨bs, hΓ⟩, -⟩ := hv
          have ha := ali_omp hr hΓ hl hid'
          obtain rfl := idB_iff.1 hid'
          obtain ⟨ws2, rfl, h'⟩ := h'
          exact ⟨_, _, _, _, _, rfl, h', give_moves hr _ (some l') (omp_ne hr hl), rfl, (hr.takeAt l _).mono hu, l', bs, rfl, hΓ, ha.give hr⟩
        · exact h'.elim
      · exact h'.elim
    | avw l id sz lo hi =>
      have h' : Prg.Runs st (match st.get l with
        | .one (.arr id' e xs) => (match and (idB id id') (Nat.beq sz (width e)) with | true => .bind (cut xs lo hi) fun ys => .upd [(l, .one .dead)] (f (.one (.arr nid e ys))) | false => .fail)
        | _ => .fail) (l :: acc) rs ws := h
      split at h'
      · rename_i id' e xs hl
        split at h'
        · rename_i hid'
          rw [Bool.and_eq_true] at hid'
          obtain rfl := Nat.eq_of_beq_eq_true hid'.2
          obtain ⟨ys, hc, ws2, rfl, h'⟩ := h'
          obtain ⟨ad, len, cap, hΓ, _, _, _, _, rfl⟩ := avw_inv (C := C) (w := w) (l := l) hv
          have ha := ali_arr hr hΓ hl hid'.1
          have h1 := hr.takeAt l (some l')
          refine ⟨_, _, _, _, _, rfl, h', (give_moves hr l (some l') (arr_ne hr hl)).moves (name_step h1 hid (cutV ad cap (width e) lo hi) [] _), rfl, h1.name hid _ _ hu hnu, l', rfl, ⟨[], name_at⟩, ?_⟩
          exact (ha.give hr).cut hc
        · exact h'.elim
      · exact h'.elim
    | arr id e xs =>
      cases o with
      | tmp t =>
        have h2 : Prg.Runs st (.upd [(.tmp t, .one .dead)] (f (.one (.arr id e xs)))) acc rs ws := h
        obtain ⟨ws2, rfl, h'⟩ := h2
        obtain ⟨l2, e1, hΓ, ha⟩ := hv
        cases e1
        exact ⟨_, _, _, _, _, rfl, h', give_moves hr _ (some l') (fun e => by cases e), rfl, (hr.takeAt (.tmp t) _).mono hu, l', rfl, hΓ, ha.give hr⟩
      | _ => exact h.elim
    | omp id k v m =>
      cases o with
      | tmp t =>
        have h2 : Prg.Runs st (.upd [(.tmp t, .one .dead)] (f (.one (.omp id k v m)))) acc rs ws := h
        obtain ⟨ws2, rfl, h'⟩ := h2
        obtain ⟨l2, bs, e1, hΓ, ha⟩ := hv
        cases e1
        exact ⟨_, _, _, _, _, rfl, h', give_moves hr _ (some l') (fun e => by cases e), rfl, (hr.takeAt (.tmp t) _).mono hu, l', bs, rfl, hΓ, ha.give hr⟩
      | _ => exact h.elim
    | _ => exact plain trivial h
/-- Looked at: data of memory as it is, whoever owns it. -/
def RepB (C : CloRep Ω) (G : Ghost) (w : World) : AV Ω → Value → Prop
  | .one (.dat t x), v => RepC w (fun b => G.ρ b = some .om) t x [v]
  | u, v => RepAV C G w none u v
theorem RepB.of {u : AV Ω} {v : Value} (h : RepAV C G w none u v) : RepB C G w u v := by
  cases u with
  | one l => cases l <;> first | exact h | exact RepC.mono (fun b _ h => ⟨rfl, fun e => h (show G.ρ b ≠ none by rw [e]; simp)⟩) h
  | _ => exact h
theorem runs_borrow (hr : Rep C G N used st a w) {o : Operand} {v : AV Ω} {x : Value} (hv : RepAV C G w (opLoc o) v x)
    {f : AV Ω → Prg Ω} {acc rs : List Loc} {ws : List (Loc × AV Ω)} (h : (borrow v f).Runs st acc rs ws) :
    ∃ u acc', (f u).Runs st acc' rs ws ∧ RepB C G w u x := by
  have plain : ∀ {acc}, noOwn v → (f v).Runs st acc rs ws → ∃ u acc', (f u).Runs st acc' rs ws ∧ RepB C G w u x := fun hn h => ⟨v, _, h, .of (hv.any hn)⟩
  have nf : ∀ b, ¬ G.O b → ¬ (fun b => G.ρ b = some .om) b := fun b h e => h (show G.ρ b ≠ none by have e' : G.ρ b = some .om := e; rw [e']; simp)
  have na : ∀ {l : Loc} b, G.ρ b = some (.at_ l) → ¬ (fun b => G.ρ b = some .om) b := fun b e e2 => by have e' : G.ρ b = some .om := e2; rw [e] at e'; cases e'
  cases v with
  | agg ls => exact plain trivial h
  | tup ps => exact plain trivial h
  | one lf =>
    cases lf with
    | ali l id =>
      have h' : Prg.Runs st (match st.get l with
        | .one (.arr id' e xs) => (match idB id id' with | true => f (.one (.dat (.sl e) xs)) | false => .fail)
        | .one (.omp id' a b m) => (match idB id id' with | true => f (.one (.dat (.mp a b) m)) | false => .fail)
        | _ => .fail) (l :: acc) rs ws := h
      split at h'
      · rename_i id' e xs hl
        split at h'
        · rename_i hid'
          exact ⟨_, _, h', (ali_arr hr hv.1 hl hid').data nf na⟩
        · exact h'.elim
      · rename_i id' k v m hl
        split at h'
        · rename_i hid'
          obtain ⟨⟨bs, hΓ⟩, -⟩ := hv
          exact ⟨_, _, h', (ali_omp hr hΓ hl hid').data nf na⟩
        · exact h'.elim
      · exact h'.elim
    | avw l id sz lo hi =>
      have h' : Prg.Runs st (match st.get l with
        | .one (.arr id' e xs) => (match and (idB id id') (Nat.beq sz (width e)) with | true => .bind (cut xs lo hi) fun ys => f (.one (.dat (.sl e) ys)) | false => .fail)
        | _ => .fail) (l :: acc) rs ws := h
      split at h'
      · rename_i id' e xs hl
        split at h'
        · rename_i hid'
          rw [Bool.and_eq_true] at hid'
          obtain rfl := Nat.eq_of_beq_eq_true hid'.2
          obtain ⟨ys, hc, h'⟩ := h'
          obtain ⟨ad, len, cap, hΓ, _, _, _, _, rfl⟩ := avw_inv (C := C) (w := w) (l := l) hv
          exact ⟨_, _, h', ((ali_arr hr hΓ hl hid'.1).data nf na).cut hc⟩
        · exact h'.elim
      · exact h'.elim
    | arr id e xs => obtain ⟨l2, e1, hΓ, ha⟩ := hv; exact ⟨_, _, h, ha.data nf na⟩
    | omp id k v m => obtain ⟨l2, bs, e1, hΓ, ha⟩ := hv; exact ⟨_, _, h, ha.data nf na⟩
    | _ => exact plain trivial h
end
end Go.Proofs.Ytbgefphoochgcaa.FE
/- FE, part 8: each operation does in memory what it does to the state: those that change no memory. -/
namespace Go.Proofs.Ytbgefphoochgcaa.FE
open Go
set_option linter.unusedVariables false
set_option linter.unusedSimpArgs false
section
variable {Ω : Type} {C : CloRep Ω} {P : Program} {T : Tab} {N : Nat}

def usedAt (used : Id → Prop) (rc i : Nat) : Id → Prop := fun id => used id ∨ ∃ s, id = (rc, i, s)
def FreshAt (used : Id → Prop) (rc i : Nat) : Prop := ∀ s, ¬ used (rc, i, s)
/-- An operation is right: whatever its program does to the state, memory follows. -/
def OpOk (P : Program) (C : CloRep Ω) (N rc i : Nat) (o : Oper) (p : Prg Ω) : Prop :=
  ∀ {G : Ghost} {used : Id → Prop} {st : S Ω} {a : Act} {w : World} {acc rs : List Loc} {ws : List (Loc × AV Ω)}, Rep C G N used st a w → FreshAt used rc i → p.Runs st acc rs ws →
    ∀ (K : Act → World → Prop) (Q : Exit → Act → World → Prop), (∀ G' a' w', Fr G.ρ w G'.ρ w' → Rep C G' N (usedAt used rc i) (ws ++ st) a' w' → K a' w') → o.wp P a w K Q
section
variable {G G1 : Ghost} {used used' : Id → Prop} {st ws' ws : S Ω} {a : Act} {w : World} {acc rs : List Loc} {rc i : Nat} {o : Oper}
theorem wp_value {v : Value} {w' : World} {K : Act → World → Prop} {Q : Exit → Act → World → Prop} (hrun : (execOp a.eval o).run P w = .ok (.value v) w') (h : K (a.put o.dst v) w') : o.wp P a w K Q := by
  unfold Oper.wp; rw [hrun]; exact h
theorem wp_skip {w' : World} {K : Act → World → Prop} {Q : Exit → Act → World → Prop} (hrun : (execOp a.eval o).run P w = .ok .skip w') (h : K (a.put o.dst undef) w') : o.wp P a w K Q := by
  unfold Oper.wp; rw [hrun]; exact h
/-- The last step of an operation that changes no memory. -/
theorem ok_put (hr : Rep C G N (usedAt used rc i) st a w) (hd : ∀ d, o.dst = some d → d < N) {u : AV Ω} {v : Value}
    (hrun : (execOp a.eval o).run P w = .ok (.value v) w) (hu : ∀ d, o.dst = some d → RepAV C G w (some (.tmp d)) u v) (hp : (putP o u).Runs st acc rs ws)
    {K : Act → World → Prop} {Q : Exit → Act → World → Prop} (hK : ∀ G' a' w', Fr G.ρ w G'.ρ w' → Rep C G' N (usedAt used rc i) (ws ++ st) a' w' → K a' w') : o.wp P a w K Q := by
  refine wp_value hrun ?_
  rcases runs_putP hp with ⟨d, hdst, rfl⟩ | ⟨hdst, rfl⟩
  · rw [hdst]
    exact hK G _ w (Fr.refl _ _) (hr.put (hd d hdst) (hu d hdst))
  · rw [hdst]
    exact hK G _ w (Fr.refl _ _) hr
/-- What is left to show behind a step. -/
theorem hK_step {K : Act → World → Prop} {ws2 : S Ω} {used2 : Id → Prop} (hfr : Fr G.ρ w G1.ρ w) (hK : ∀ G' a' w', Fr G.ρ w G'.ρ w' → Rep C G' N used2 ((ws2 ++ ws') ++ st) a' w' → K a' w') :
    ∀ G' a' w', Fr G1.ρ w G'.ρ w' → Rep C G' N used2 (ws2 ++ (ws' ++ st)) a' w' → K a' w' :=
  fun G' a' w' h hr => hK G' a' w' (hfr.trans h) (by rw [List.append_assoc]; exact hr)
theorem Moves.fr {G' : Ghost} (h : Moves G w G') : Fr G.ρ w G'.ρ w := Step.fr h
theorem Rep.at_op (hr : Rep C G N used st a w) (rc i : Nat) : Rep C G N (usedAt used rc i) st a w := hr.mono fun _ h => .inl h
theorem copyV_rep {x : Operand} {v : AV Ω} {u : Value} (h : RepAV C G w (opLoc x) v u) (at_ : Option Loc) : RepAV C G w at_ (copyV x v) u := by
  cases v with
  | agg ls => cases x <;> exact h
  | tup ps => cases x <;> exact h
  | one l =>
    cases l with
    | arr id e xs =>
      obtain ⟨l', e1, e2, h⟩ := h
      cases x with
      | tmp t => exact ⟨e2, by obtain ⟨ad, cap, rfl, _⟩ := h.header; rfl⟩
      | _ => cases e1
    | omp id k v m =>
      obtain ⟨l', bs, e1, e2, h⟩ := h
      cases x with
      | tmp t => exact ⟨⟨bs, e2⟩, by obtain ⟨b, es, clock, rfl, _⟩ := h; rfl⟩
      | _ => cases e1
    | _ => cases x <;> exact h
end
variable {rc i : Nat} {dst : Option Nat} {ty : Nat} {pos : String} {after : Array Edge} {guard : Option (Nat × Bool)}
theorem ok_move {x : Operand} (hd : ∀ d, dst = some d → d < N) : OpOk P C N rc i ⟨dst, .move x, ty, pos, after, guard⟩ (opG x fun v => putP ⟨dst, .move x, ty, pos, after, guard⟩ (copyV x v)) := by
  intro G used st a w acc rs ws hr hf h K Q hK
  obtain ⟨v, acc', h, hv, _⟩ := runs_opG hr h
  exact ok_put (hr.at_op rc i) hd rfl (fun d _ => copyV_rep hv _) h hK
theorem ok_assign {x : Operand} (hd : ∀ d, dst = some d → d < N) (frz : Bool) : OpOk P C N rc i ⟨dst, .assign x, ty, pos, after, guard⟩
    (opG x fun v => (match frz with | true => freeze x v fun u => putP ⟨dst, .assign x, ty, pos, after, guard⟩ u | false => takeV x (rc, i, 0) v fun u => putP ⟨dst, .assign x, ty, pos, after, guard⟩ u)) := by
  intro G used st a w acc rs ws hr hf h K Q hK
  obtain ⟨v, acc', h, hv, hs⟩ := runs_opG hr h
  cases frz with
  | true =>
    obtain ⟨u, ws', ws2, acc2, G1, rfl, h, hm, _, _, hr1, hu, hn⟩ := runs_freeze hr hv hs h
    exact ok_put (hr1.at_op rc i) hd rfl (fun d _ => hu.any hn) h (hK_step hm.fr hK)
  | false =>
    obtain ⟨u, ws', ws2, acc2, G1, rfl, h, hm, _, hr1, hu⟩ := runs_take hr hv hs (match dst with | some d => .tmp d | none => .om) (hf 0) (used' := usedAt used rc i) (fun _ h => .inl h) (.inr ⟨0, rfl⟩) h
    exact ok_put hr1 hd rfl (fun d hd' => by obtain rfl : dst = some d := hd'; exact hu) h (hK_step hm.fr hK)
theorem boolOf_runs {st : S Ω} {v : AV Ω} {f : Bool → Prg Ω} {acc rs : List Loc} {ws : List (Loc × AV Ω)} (h : (boolOf v f).Runs st acc rs ws) : ∃ b, v = .one (.dat .bool b) ∧ (f b).Runs st acc rs ws := by
  unfold boolOf at h
  split at h
  · exact ⟨_, rfl, h⟩
  · exact h.elim
theorem intOf_runs {st : S Ω} {v : AV Ω} {f : Int → Prg Ω} {acc rs : List Loc} {ws : List (Loc × AV Ω)} (h : (intOf v f).Runs st acc rs ws) : ∃ k n, v = .one (.dat (.int k) n) ∧ (f n).Runs st acc rs ws := by
  unfold intOf at h
  split at h
  · exact ⟨_, _, rfl, h⟩
  · exact h.elim
theorem dat_int {G : Ghost} {w : World} {at_ : Option Loc} {k : IntKind} {n : Int} {v : Value} (h : RepAV C G w at_ (.one (.dat (.int k) n)) v) : v = .int k n := by
  have : [v] = [Value.int k n] := h
  simpa using this
theorem dat_bool {G : Ghost} {w : World} {at_ : Option Loc} {b : Bool} {v : Value} (h : RepAV C G w at_ (.one (.dat .bool b)) v) : v = .bool b := by
  have : [v] = [Value.bool b] := h
  simpa using this
theorem dat_str {G : Ghost} {w : World} {at_ : Option Loc} {b : ByteArray} {v : Value} (h : RepAV C G w at_ (.one (.dat .str b)) v) : v = .string b := by
  have : [v] = [Value.string b] := h
  simpa using this
theorem ok_pick {c x y : Operand} (hd : ∀ d, dst = some d → d < N) : OpOk P C N rc i ⟨dst, .pick c x y, ty, pos, after, guard⟩
    (opG c fun vc => boolOf vc fun b => .ite b (opG x fun v => putP ⟨dst, .pick c x y, ty, pos, after, guard⟩ (copyV x v)) (opG y fun v => putP ⟨dst, .pick c x y, ty, pos, after, guard⟩ (copyV y v))) := by
  intro G used st a w acc rs ws hr hf h K Q hK
  obtain ⟨vc, acc', h, hvc, _⟩ := runs_opG hr h
  obtain ⟨b, rfl, h⟩ := boolOf_runs h
  have hc := dat_bool hvc
  cases b with
  | true =>
    obtain ⟨v, acc2, h, hv, _⟩ := runs_opG (f := fun v => putP ⟨dst, .pick c x y, ty, pos, after, guard⟩ (copyV x v)) hr h
    exact ok_put (v := a.eval x) (hr.at_op rc i) hd (by simp [execOp, hc, asBool, bind, Sem.bind, pure]) (fun d _ => copyV_rep hv _) h hK
  | false =>
    obtain ⟨v, acc2, h, hv, _⟩ := runs_opG (f := fun v => putP ⟨dst, .pick c x y, ty, pos, after, guard⟩ (copyV y v)) hr h
    exact ok_put (v := a.eval y) (hr.at_op rc i) hd (by simp [execOp, hc, asBool, bind, Sem.bind, pure]) (fun d _ => copyV_rep hv _) h hK
section
variable {G : Ghost} {used : Id → Prop} {st ws : S Ω} {a : Act} {w : World} {acc rs : List Loc} {o : Oper} {K : Act → World → Prop} {Q : Exit → Act → World → Prop}
theorem beq_dec (n m : Int) : (n == m) = decide (n = m) := by by_cases h : n = m <;> simp [h]
/-- The last step, where a datum comes out. -/
theorem fin_dat (hd : ∀ d, o.dst = some d → d < N) (hr : Rep C G N used st a w) (hK : ∀ G' a' w', Fr G.ρ w G'.ρ w' → Rep C G' N (usedAt used rc i) (ws ++ st) a' w' → K a' w')
    {t : Ty} {x : El t} {v : Value} (hp : (putP o (.one (.dat t x))).Runs st acc rs ws) (hrun : (execOp a.eval o).run P w = .ok (.value v) w) (hu : RepC w G.O t x [v]) : o.wp P a w K Q :=
  ok_put (u := .one (.dat t x)) (hr.at_op rc i) hd hrun (fun d _ => hu) hp hK
theorem fin_any (hd : ∀ d, o.dst = some d → d < N) (hr : Rep C G N used st a w) (hK : ∀ G' a' w', Fr G.ρ w G'.ρ w' → Rep C G' N (usedAt used rc i) (ws ++ st) a' w' → K a' w')
    {u : AV Ω} {v : Value} (hp : (putP o u).Runs st acc rs ws) (hn : noOwn u) (hrun : (execOp a.eval o).run P w = .ok (.value v) w) (hu : RepAV C G w none u v) : o.wp P a w K Q :=
  ok_put (hr.at_op rc i) hd hrun (fun d _ => hu.any hn) hp hK
theorem ok_binInt {op : BinOp} {t yt : Nat} {x y : Operand} {k : IntKind} {n m : Int} (hd : ∀ d, dst = some d → d < N)
    (hr : Rep C G N used st a w) (hx : a.eval x = .int k n) (hy : a.eval y = .int k m)
    (h : (arithP op k n m fun v => putP ⟨dst, .binOp op t x y yt, ty, pos, after, guard⟩ v).Runs st acc rs ws)
    (hK : ∀ G' a' w', Fr G.ρ w G'.ρ w' → Rep C G' N (usedAt used rc i) (ws ++ st) a' w' → K a' w') : (⟨dst, .binOp op t x y yt, ty, pos, after, guard⟩ : Oper).wp P a w K Q := by
  cases op
  case quo =>
    cases hm : decide (m = 0) with
    | true => simp only [arithP, hm] at h; exact h.elim
    | false =>
      simp only [arithP, hm] at h
      have hm' : m ≠ 0 := by simpa using hm
      exact fin_dat hd hr hK h (by simp [execOp, hx, hy, Go.binOp, eqGuard, Op.intDiv, hm', Sem.run, bind, Sem.bind, pure]) rfl
  case rem =>
    cases hm : decide (m = 0) with
    | true => simp only [arithP, hm] at h; exact h.elim
    | false =>
      simp only [arithP, hm] at h
      have hm' : m ≠ 0 := by simpa using hm
      exact fin_dat hd hr hK h (by simp [execOp, hx, hy, Go.binOp, eqGuard, Op.intDiv, hm', Sem.run, bind, Sem.bind, pure]) rfl
  case shl =>
    cases hm : decide (0 ≤ m) with
    | false => simp only [arithP, hm] at h; exact h.elim
    | true =>
      simp only [arithP, hm] at h
      have hm' : ¬ m < 0 := by have := of_decide_eq_true hm; omega
      exact fin_dat hd hr hK h (by simp [execOp, hx, hy, Go.binOp, eqGuard, Op.shift, hm', Sem.run, bind, Sem.bind, pure]) rfl
  case shr =>
    cases hm : decide (0 ≤ m) with
    | false => simp only [arithP, hm] at h; exact h.elim
    | true =>
      simp only [arithP, hm] at h
      have hm' : ¬ m < 0 := by have := of_decide_eq_true hm; omega
      exact fin_dat hd hr hK h (by simp [execOp, hx, hy, Go.binOp, eqGuard, Op.shift, hm', Sem.run, bind, Sem.bind, pure]) rfl
  case eql => exact fin_dat hd hr hK h (v := .bool (n == m)) (by simp [execOp, hx, hy, Go.binOp, eqGuard, Op.intCmp, Sem.run, bind, Sem.bind, pure]) (by simp only [RepC, beq_dec])
  case neq => exact fin_dat hd hr hK h (v := .bool (n != m)) (by simp [execOp, hx, hy, Go.binOp, eqGuard, Op.intCmp, Sem.run, bind, Sem.bind, pure]) (by simp only [RepC, bne, beq_dec])
  all_goals first
    | exact h.elim
    | exact fin_dat hd hr hK h (by simp [execOp, hx, hy, Go.binOp, eqGuard, Op.intArith, Op.intCmp, Op.intBits, Sem.run, bind, Sem.bind, pure]; try rfl) rfl
end
end
end Go.Proofs.Ytbgefphoochgcaa.FE
/- FE, part 9: operations that change no memory: comparisons, addresses, reads. -/
namespace Go.Proofs.Ytbgefphoochgcaa.FE
open Go
set_option linter.unusedVariables false
set_option linter.unusedSimpArgs false
section
variable {Ω : Type} {C : CloRep Ω} {P : Program} {T : Tab} {N : Nat}
variable {rc i : Nat} {dst : Option Nat} {ty : Nat} {pos : String} {after : Array Edge} {guard : Option (Nat × Bool)}
variable {G : Ghost} {used : Id → Prop} {st ws : S Ω} {a : Act} {w : World} {acc rs : List Loc} {o : Oper} {K : Act → World → Prop} {Q : Exit → Act → World → Prop}

theorem noOwn_of {u : AV Ω} {v : Value} (h : RepAV C G w none u v) : noOwn u := by
  cases u with
  | one l =>
    cases l with
    | arr id e xs => obtain ⟨_, e, _⟩ := h; cases e
    | omp id k vt m => obtain ⟨_, _, e, _⟩ := h; cases e
    | _ => trivial
  | _ => trivial
theorem nilP_runs {op : BinOp} {b : Bool} (hp : (nilP op b fun v => putP o v).Runs st acc rs ws) : (op = .eql ∧ (putP o (.one (.dat .bool b))).Runs st acc rs ws) ∨ (op = .neq ∧ (putP o (.one (.dat .bool (!b)))).Runs st acc rs ws) := by
  unfold nilP at hp
  split at hp
  · exact .inl ⟨rfl, hp⟩
  · exact .inr ⟨rfl, hp⟩
  · exact hp.elim
/-- '==' and '!=' where neither side is a number, a string. -/
theorem ok_eqlOf {op : BinOp} {t yt : Nat} {x y : Operand} {b : Bool} (hd : ∀ d, dst = some d → d < N)
    (hr : Rep C G N used st a w)
    (h1 : (execOp a.eval ⟨dst, .binOp .eql t x y yt, ty, pos, after, guard⟩).run P w = .ok (.value (.bool b)) w)
    (h2 : (execOp a.eval ⟨dst, .binOp .neq t x y yt, ty, pos, after, guard⟩).run P w = .ok (.value (.bool (!b))) w)
    (h : (nilP op b fun v => putP ⟨dst, .binOp op t x y yt, ty, pos, after, guard⟩ v).Runs st acc rs ws)
    (hK : ∀ G' a' w', Fr G.ρ w G'.ρ w' → Rep C G' N (usedAt used rc i) (ws ++ st) a' w' → K a' w') : (⟨dst, .binOp op t x y yt, ty, pos, after, guard⟩ : Oper).wp P a w K Q := by
  rcases nilP_runs h with ⟨rfl, h⟩ | ⟨rfl, h⟩
  · exact fin_dat hd hr hK h h1 rfl
  · exact fin_dat hd hr hK h h2 rfl
theorem isNilV_rep {v : AV Ω} {b : Bool} {u : Value} {at_ : Option Loc} (h : isNilV v = some b) (hv : RepAV C G w at_ v u) : ∃ ad, u = .pointer ad ∧ ad.isNone = b := by
  unfold isNilV at h
  split at h <;> cases h
  · exact ⟨none, hv, rfl⟩
  · obtain ⟨b, _, e⟩ := hv; exact ⟨_, e, rfl⟩
  · obtain ⟨b, off, l, e, _⟩ := hv; exact ⟨_, e, rfl⟩
  · rcases hv with ⟨rfl, e⟩ | ⟨y, b, off, l, rfl, e, _⟩
    · exact ⟨none, by simpa using e, rfl⟩
    · exact ⟨some ⟨b, off, none⟩, by simpa using e, rfl⟩
theorem run_equal_bool {t : Nat} (hu : P.underlying t = some .bool) (n m : Bool) : (Op.equal t (.bool n) (.bool m)).run P w = .ok (n == m) w := by
  show (Op.equalIn (9999 + 1) t _ _).run P w = _
  rw [Op.equalIn]
  simp [run_underlying hu]
theorem run_equal_nil1 {t e : Nat} (hu : P.underlying t = some (.pointer e)) (ad : Option Addr) : (Op.equal t (.pointer none) (.pointer ad)).run P w = .ok ad.isNone w := by
  show (Op.equalIn (9999 + 1) t _ _).run P w = _
  rw [Op.equalIn]
  simp [run_underlying hu]
theorem run_equal_nil2 {t e : Nat} (hu : P.underlying t = some (.pointer e)) (ad : Option Addr) : (Op.equal t (.pointer ad) (.pointer none)).run P w = .ok ad.isNone w := by
  show (Op.equalIn (9999 + 1) t _ _).run P w = _
  rw [Op.equalIn]
  cases ad <;> simp [run_underlying hu]
theorem ok_binOp (hT : TabOk P T) {op : BinOp} {t yt : Nat} {x y : Operand} (hd : ∀ d, dst = some d → d < N) : OpOk P C N rc i ⟨dst, .binOp op t x y yt, ty, pos, after, guard⟩
    (Prg.opt (T.get t) fun ti => opG x fun a => opG y fun b => (match ti.kind, a, b with
      | .int k, .one (.dat (.int k1) n), .one (.dat (.int k2) m) => (match and (Nat.beq (IK k1) (IK k)) (Nat.beq (IK k2) (IK k)) with | true => arithP op k n m fun v => putP ⟨dst, .binOp op t x y yt, ty, pos, after, guard⟩ v | false => .fail)
      | .bool, .one (.dat .bool n), .one (.dat .bool m) => nilP op (n == m) fun v => putP ⟨dst, .binOp op t x y yt, ty, pos, after, guard⟩ v
      | .str, .one (.dat .str n), .one (.dat .str m) => strP op n m fun v => putP ⟨dst, .binOp op t x y yt, ty, pos, after, guard⟩ v
      | .ptr _, .one .nilP, v => Prg.opt (isNilV v) fun c => nilP op c fun v => putP ⟨dst, .binOp op t x y yt, ty, pos, after, guard⟩ v
      | .ptr _, v, .one .nilP => Prg.opt (isNilV v) fun c => nilP op c fun v => putP ⟨dst, .binOp op t x y yt, ty, pos, after, guard⟩ v
      | _, _, _ => .fail)) := by
  intro G used st a w acc rs ws hr hf h K Q hK
  obtain ⟨ti, hti, h⟩ := runs_opt h
  obtain ⟨vx, acc1, h, hx, -⟩ := runs_opG hr h
  obtain ⟨vy, acc2, h, hy, -⟩ := runs_opG hr h
  split at h
  · rename_i k k1 n k2 m hk
    split at h
    · rename_i he
      simp only [Bool.and_eq_true] at he
      obtain rfl := IK_inj (Nat.eq_of_beq_eq_true he.1)
      obtain rfl := IK_inj (Nat.eq_of_beq_eq_true he.2)
      exact ok_binInt hd hr (dat_int hx) (dat_int hy) h hK
    · exact h.elim
  · have hu := hT.bool hti ‹_›
    have e1 := dat_bool hx
    have e2 := dat_bool hy
    refine ok_eqlOf hd hr ?_ ?_ h hK <;> simp [execOp, e1, e2, Go.binOp, eqGuard, run_equal_bool hu]
  · have e1 := dat_str hx
    have e2 := dat_str hy
    unfold strP at h
    split at h
    · exact fin_dat hd hr hK h (by simp [execOp, e1, e2, Go.binOp, eqGuard, Op.stringOp]; rfl) rfl
    · exact fin_dat hd hr hK h (by simp [execOp, e1, e2, Go.binOp, eqGuard, Op.stringOp]; rfl) rfl
    · exact fin_dat hd hr hK h (by simp [execOp, e1, e2, Go.binOp, eqGuard, Op.stringOp]; rfl) rfl
    · unfold Prg.Runs at h
      split at h
      · rename_i hl
        refine fin_dat hd hr hK h ?_ rfl
        have hl := of_decide_eq_true hl
        unfold LIM at hl
        have hs : ∀ n m : Nat, n + m ≤ 68719476736 → ¬ (9223372036854775807 < (n : Int) + (m : Int)) := fun n m h => by omega
        simp [execOp, e1, e2, Go.binOp, eqGuard, Op.stringOp, hs _ _ hl]
      · exact h.elim
    · exact h.elim
  · obtain ⟨c, hc, h⟩ := runs_opt h
    have hu := hT.ptr hti ‹_›
    have e1 : a.eval x = .pointer none := hx
    obtain ⟨ad, e2, hb⟩ := isNilV_rep hc hy
    refine ok_eqlOf hd hr ?_ ?_ h hK <;> cases ad <;> simp at hb <;> subst hb <;> simp [execOp, e1, e2, Go.binOp, eqGuard, run_equal_nil1 hu, run_equal_nil2 hu]
  · obtain ⟨c, hc, h⟩ := runs_opt h
    have hu := hT.ptr hti ‹_›
    have e2 : a.eval y = .pointer none := hy
    obtain ⟨ad, e1, hb⟩ := isNilV_rep hc hx
    refine ok_eqlOf hd hr ?_ ?_ h hK <;> cases ad <;> simp at hb <;> subst hb <;> simp [execOp, e1, e2, Go.binOp, eqGuard, run_equal_nil1 hu, run_equal_nil2 hu]
  · exact h.elim
theorem ok_unOp {op : UnOp} {t : Nat} {x : Operand} (hd : ∀ d, dst = some d → d < N) : OpOk P C N rc i ⟨dst, .unOp op t x, ty, pos, after, guard⟩
    (opG x fun v => (match op, v with
      | .not, .one (.dat .bool b) => putP ⟨dst, .unOp op t x, ty, pos, after, guard⟩ (.one (.dat .bool (!b)))
      | .neg, .one (.dat (.int k) n) => putP ⟨dst, .unOp op t x, ty, pos, after, guard⟩ (.one (.dat (.int k) (k.wrap (0 - n))))
      | _, _ => .fail)) := by
  intro G used st a w acc rs ws hr hf h K Q hK
  obtain ⟨v, acc1, h, hv, -⟩ := runs_opG hr h
  split at h
  · have e := dat_bool hv
    exact fin_dat hd hr hK h (by simp [execOp, e, Op.unary]) rfl
  · have e := dat_int hv
    exact fin_dat hd hr hK h (by simp only [execOp, e, Op.unary, Op.intArith]; rfl) rfl
  · exact h.elim
theorem ok_convert (hT : TabOk P T) {s t : Nat} {x : Operand} (hd : ∀ d, dst = some d → d < N) : OpOk P C N rc i ⟨dst, .convert s t x, ty, pos, after, guard⟩
    (Prg.opt (T.get s) fun si => Prg.opt (T.get t) fun ti => opG x fun v => (match si.kind, ti.kind, v with
      | .int _, .int k, .one (.dat (.int _) n) => putP ⟨dst, .convert s t x, ty, pos, after, guard⟩ (.one (.dat (.int k) (k.wrap n)))
      | _, _, _ => .fail)) := by
  intro G used st a w acc rs ws hr hf h K Q hK
  obtain ⟨si, hsi, h⟩ := runs_opt h
  obtain ⟨ti, hti, h⟩ := runs_opt h
  obtain ⟨v, acc1, h, hv, -⟩ := runs_opG hr h
  split at h
  · have e := dat_int hv
    have h1 := hT.int hsi ‹_›
    have h2 := hT.int hti ‹_›
    exact fin_dat hd hr hK h (by simp [execOp, e, Go.convert, run_underlying h1, run_underlying h2, Conv.intToInt]) rfl
  · exact h.elim
theorem ok_nilCheck {x : Operand} (hd : ∀ d, dst = some d → d < N) : OpOk P C N rc i ⟨dst, .nilCheck x, ty, pos, after, guard⟩
    (opG x fun v => (match v with
      | .one (.ref b off n) => putP ⟨dst, .nilCheck x, ty, pos, after, guard⟩ (.one (.ref b off n))
      | .one (.eptr t y) => putP ⟨dst, .nilCheck x, ty, pos, after, guard⟩ (.one (.eptr t y))
      | .one (.dat (.pt t) y) => .bind y fun z => putP ⟨dst, .nilCheck x, ty, pos, after, guard⟩ (.one (.eptr t z))
      | _ => .fail)) := by
  intro G used st a w acc rs ws hr hf h K Q hK
  obtain ⟨v, acc1, h, hv, -⟩ := runs_opG hr h
  split at h
  · obtain ⟨b, hb, e⟩ := hv
    exact fin_any hd hr hK h trivial (by simp [execOp, e]) ⟨b, hb, rfl⟩
  · obtain ⟨b, off, l, e, h1⟩ := hv
    exact fin_any hd hr hK h trivial (by simp [execOp, e]) ⟨b, off, l, rfl, h1⟩
  · obtain ⟨z, rfl, h⟩ := h
    rcases hv with ⟨e, _⟩ | ⟨y, b, off, l, e1, e2, h1⟩
    · cases e
    · cases e1
      have e : a.eval x = .pointer (some ⟨b, off, none⟩) := by simpa using e2
      exact fin_any hd hr hK h trivial (by simp [execOp, e]) ⟨b, off, l, rfl, h1.1, h1.2.1, h1.2.2⟩
  · exact h.elim
theorem ok_extract {x : Operand} {j : Nat} (hd : ∀ d, dst = some d → d < N) : OpOk P C N rc i ⟨dst, .extract x j, ty, pos, after, guard⟩
    (opG x fun v => (match v with | .tup vs => Prg.opt (vs[j]?) fun p => putP ⟨dst, .extract x j, ty, pos, after, guard⟩ (avOf p.1 p.2) | _ => .fail)) := by
  intro G used st a w acc rs ws hr hf h K Q hK
  obtain ⟨v, acc1, h, hv, -⟩ := runs_opG hr h
  split at h
  · rename_i vs
    obtain ⟨p, hp, h⟩ := runs_opt h
    obtain ⟨us, e, ha⟩ := hv
    obtain ⟨u, hu, hru⟩ := ha.get hp
    have hu' : us[j]? = some u := by simpa using hu
    have hru' : RepAV C G w none (avOf p.1 p.2) u := by
      cases hq : avOf p.1 p.2 <;> rw [hq] at hru <;> first | exact hru | exact hru.elim
    exact fin_any hd hr hK h (noOwn_of hru') (by simp [execOp, e, Instr.extract, hu']) hru'
  · exact h.elim
/-! ### addresses -/
theorem cells_one {v : Value} (h : v.oneCell' = true) : v.cells = #[v] := by cases v <;> first | rfl | cases h
theorem noAgg_leaf {at_ : Option Loc} {l : Leaf Ω} {v : Value} (h : RepL C G w at_ l v) (hd : l ≠ .dead) : v.oneCell' = true := by
  cases l with
  | dat t x =>
    have : ∀ {t : Ty} {x : El t} {u : List Value}, RepC w G.O t x u → ∀ v ∈ u, v.oneCell' = true := by
      intro t
      induction t with
      | pair a b ha hb =>
        rintro x u ⟨l, r, rfl, h1, h2⟩ v hv
        rcases List.mem_append.1 hv with hv | hv
        · exact ha h1 v hv
        · exact hb h2 v hv
      | st r ih => intro x u h v hv; exact ih h v hv
      | sl e _ => rintro x u ⟨ad, cap, rfl, _⟩ v hv; obtain rfl : v = _ := by simpa using hv
                  rfl
      | mp k v _ _ => rintro x u ⟨r, rfl, _⟩ v hv; obtain rfl : v = _ := by simpa using hv
                      rfl
      | pt t _ =>
        rintro x u (⟨_, rfl⟩ | ⟨y, b, off, l, _, rfl, _⟩) v hv
        · obtain rfl : v = _ := by simpa using hv
          rfl
        · obtain rfl : v = _ := by simpa using hv
          rfl
      | unit => rintro x u rfl v hv; cases hv
      | _ => rintro x u rfl v hv; obtain rfl : v = _ := by simpa using hv
             rfl
    exact this h v (by simp)
  | arr id e xs => obtain ⟨l, _, _, h⟩ := h; obtain ⟨ad, cap, rfl, _⟩ := h.header; rfl
  | omp id k vt m => obtain ⟨l, bs, _, _, h⟩ := h; obtain ⟨b, es, clock, rfl, _⟩ := h; rfl
  | ref id off n => obtain ⟨b, _, rfl⟩ := h; rfl
  | eptr t x => obtain ⟨b, off, l, rfl, _⟩ := h; rfl
  | aptr l id sz n off => obtain ⟨b, o, len, cap, bs, _, _, _, rfl⟩ := h; rfl
  | avw l id sz lo hi => obtain ⟨ad, len, cap, _, _, _, _, _, rfl⟩ := avw_inv (C := C) (w := w) (l := l) h; rfl
  | clo f caps => obtain ⟨bs, _, _, rfl⟩ := h; rfl
  | fnv => obtain ⟨f, x, y, e⟩ := C.fn; obtain rfl : v = C.val := h
           rw [e]; rfl
  | ent l id0 id j => obtain ⟨u, bs, n, _, _, _, rfl⟩ := h; rfl
  | opq s => exact h.elim
  | dead => exact absurd rfl hd
  | nilS => obtain rfl : v = .slice none 0 0 := h; rfl
  | nilM => obtain rfl : v = .map none := h; rfl
  | nilP => obtain rfl : v = .pointer none := h; rfl
  | ali l id => exact h.2
end
end Go.Proofs.Ytbgefphoochgcaa.FE
/- FE, part 10: operations that change no memory: fields, elements, reads, lengths, parts. -/
namespace Go.Proofs.Ytbgefphoochgcaa.FE
open Go
set_option linter.unusedVariables false
set_option linter.unusedSimpArgs false
section
variable {Ω : Type} {C : CloRep Ω} {P : Program} {T : Tab} {N : Nat}
variable {rc i : Nat} {dst : Option Nat} {ty : Nat} {pos : String} {after : Array Edge} {guard : Option (Nat × Bool)}
variable {G : Ghost} {used : Id → Prop} {st ws : S Ω} {a : Act} {w : World} {acc rs : List Loc} {o : Oper} {K : Act → World → Prop} {Q : Exit → Act → World → Prop}

theorem live_ne {l : Leaf Ω} (h : liveL l = true) : l ≠ .dead := by intro e; subst e; cases h
theorem allLive_mem : ∀ {ls : List (Leaf Ω)}, allLive ls = true → ∀ l ∈ ls, l ≠ .dead
  | [], _, l, h => by cases h
  | x :: r, h, l, hl => by
    unfold allLive at h
    split at h
    · rename_i hx
      rcases List.mem_cons.1 hl with rfl | hl
      · exact live_ne hx
      · exact allLive_mem h l hl
    · cases h
theorem all2_one {ls : List (Leaf Ω)} {l : List Value} (h : All2 (RepL C G w none) ls l) (hl : ∀ x ∈ ls, x ≠ .dead) : ∀ v ∈ l, v.oneCell' = true := by
  induction h with
  | nil => intro v hv; cases hv
  | cons x _ ih =>
    intro v hv
    rcases List.mem_cons.1 hv with rfl | hv
    · exact noAgg_leaf x (hl _ List.mem_cons_self)
    · exact ih (fun y hy => hl y (List.mem_cons_of_mem _ hy)) v hv
theorem leaves_rep {u : AV Ω} {v : Value} (h : RepAV C G w none u v) (hs : sizedV u = true) : All2 (RepL C G w none) (leavesOf u) v.cells.toList := by
  cases u with
  | one l =>
    have h' : RepL C G w none l v := h
    rw [cells_one (noAgg_leaf h' (live_ne hs))]
    exact .cons h' .nil
  | agg ls => obtain ⟨vs, rfl, h⟩ := h; exact h
  | tup ps => cases hs
theorem leaves_one {u : AV Ω} {v : Value} (h : RepAV C G w none u v) (hs : sizedV u = true) : ∀ x ∈ v.cells.toList, x.oneCell' = true := by
  refine all2_one (leaves_rep h hs) ?_
  cases u with
  | one l => intro x hx; obtain rfl : x = l := by simpa [leavesOf] using hx
             exact live_ne hs
  | agg ls => exact allLive_mem hs
  | tup ps => cases hs
theorem fitsV_iff {u : AV Ω} {n : Nat} (h : fitsV u n = true) : sizedV u = true ∧ (leavesOf u).length = n := by
  simp only [fitsV, Bool.and_eq_true] at h
  exact ⟨h.1, Nat.eq_of_beq_eq_true h.2⟩
theorem sized_dat {t : Ty} {x : El t} : sizedV (.one (.dat t x) : AV Ω) = true := rfl
theorem avOf_rep {g : Bool} {ls : List (Leaf Ω)} {l : List Value} (h : All2 (RepL C G w none) ls l) {v : Value} (hv : match g with | true => v = .agg l.toArray | false => l = [v]) : RepAV C G w none (avOf g ls) v := by
  cases g with
  | true => obtain rfl := hv; exact ⟨l.toArray, rfl, by simpa using h⟩
  | false =>
    have hv' : l = [v] := hv
    subst hv'
    cases h with
    | cons h t => cases t; exact h
theorem noOwn_avOf {g : Bool} {ls : List (Leaf Ω)} {l : List Value} (h : All2 (RepL C G w none) ls l) : noOwn (avOf g ls) := by
  cases g with
  | true => trivial
  | false =>
    cases h with
    | nil => trivial
    | cons h t => cases t with
      | nil => exact noOwn_of (u := .one _) (C := C) (G := G) (w := w) h
      | cons _ _ => trivial
theorem cellsOf_info {t : Nat} (h : 0 < P.cellsOf t) : ∃ j, P.info? t = some j ∧ j.size ≠ 0 := by
  unfold Program.cellsOf at h
  cases hi : P.info? t with
  | none => simp [hi] at h
  | some j => simp [hi] at h; exact ⟨j, rfl, by omega⟩
theorem run_fieldAt (hT : TabOk P T) {s f : Nat} {ti : TI} (hti : T.get s = some ti) {fs : List (Nat × Nat)} (hk : ti.kind = .st fs) {p : Nat × Nat} (hp : fs[f]? = some p) (b off : Nat) :
    (Instr.fieldAt s (.pointer (some ⟨b, off, none⟩)) f).run P w = .ok (.pointer (some ⟨b, off + p.1, none⟩)) w := by
  obtain ⟨gs, hu, hf⟩ := hT.st hti hk
  obtain ⟨fl, h1, h2, h3, h4⟩ := fieldsB_get hf hp
  obtain ⟨j, hj, hz⟩ := cellsOf_info h4
  have h1' : gs[f]? = some fl := by simpa using h1
  simp [Instr.fieldAt, run_underlying hu, h1', Instr.sureAddr, fieldPlace, sizeOf, typeInfo, hj, hz, h2, add_none]
theorem run_fieldAddr (hT : TabOk P T) {s f : Nat} {ti : TI} (hti : T.get s = some ti) {fs : List (Nat × Nat)} (hk : ti.kind = .st fs) {p : Nat × Nat} (hp : fs[f]? = some p) {b off : Nat} {x : Operand} (e : a.eval x = .pointer (some ⟨b, off, none⟩)) :
    (execOp a.eval ⟨dst, .fieldAddr s x f, ty, pos, after, guard⟩).run P w = .ok (.value (.pointer (some ⟨b, off + p.1, none⟩))) w := by
  simp [execOp, e, run_fieldAt hT hti hk hp]
theorem At.sub {b off : Nat} {l : List Value} (h : At w b off l) (k n : Nat) : At w b (off + k) ((l.drop k).take n) := by
  obtain ⟨c, el, fz, hh, hc⟩ := h
  refine ⟨c, el, fz, hh, fun i v hi => ?_⟩
  have : l[k + i]? = some v := by
    rw [List.getElem?_take] at hi
    split at hi
    · rwa [List.getElem?_drop] at hi
    · cases hi
  rw [Nat.add_assoc]
  exact hc _ _ this
theorem ok_fieldAddr (hT : TabOk P T) {s f : Nat} {x : Operand} (hd : ∀ d, dst = some d → d < N) : OpOk P C N rc i ⟨dst, .fieldAddr s x f, ty, pos, after, guard⟩
    (Prg.opt (T.get s) fun ti => (match ti.kind with
      | .st fs => Prg.opt (fs[f]?) fun p => opG x fun v => (match v with
        | .one (.ref b off n) => putP ⟨dst, .fieldAddr s x f, ty, pos, after, guard⟩ (.one (.ref b (off + p.1) n))
        | .one (.aptr l id sz n off) => putP ⟨dst, .fieldAddr s x f, ty, pos, after, guard⟩ (.one (.aptr l id sz n (off + p.1)))
        | .one (.eptr t y) => Prg.opt (T.get p.2) fun fi => Prg.opt (packAll fi.ty (((unpack (Ω := Ω) t y).drop p.1).take fi.size)) fun z => putP ⟨dst, .fieldAddr s x f, ty, pos, after, guard⟩ (.one (.eptr fi.ty z))
        | _ => .fail)
      | _ => .fail)) := by
  intro G used st a w acc rs ws hr hf h K Q hK
  obtain ⟨ti, hti, h⟩ := runs_opt h
  split at h
  · rename_i fs hk
    obtain ⟨p, hp, h⟩ := runs_opt h
    obtain ⟨v, acc1, h, hv, -⟩ := runs_opG hr h
    split at h
    · obtain ⟨b, hb, e⟩ := hv
      exact fin_any hd hr hK h trivial (run_fieldAddr hT hti hk hp e) ⟨b, hb, rfl⟩
    · obtain ⟨b, o', len, cap, bs, h1, h2, h3, e⟩ := hv
      refine fin_any hd hr hK h trivial (run_fieldAddr hT hti hk hp e) ⟨b, o', len, cap, bs, h1, h2, h3, ?_⟩
      simp only [Nat.add_assoc]
    · obtain ⟨fi, hfi, h⟩ := runs_opt h
      obtain ⟨z, hz, h⟩ := runs_opt h
      obtain ⟨b, off, l, e, hb, hc, hat⟩ := hv
      have hz' := packAll_rep (C := C) hz (((unpack_rep (C := C) hc).drop p.1).take fi.size)
      exact fin_any hd hr hK h trivial (run_fieldAddr hT hti hk hp e) ⟨b, off + p.1, _, rfl, hb, hz', hat.sub _ _⟩
    · exact h.elim
  · exact h.elim
theorem idx_some {α : Type} {xs : List α} {n : Int} {y : α} (h : idx xs n = some y) : 0 ≤ n ∧ ∃ h : n.toNat < xs.length, y = xs[n.toNat] := by
  unfold idx at h
  split at h
  · rename_i e
    obtain ⟨h1, h2⟩ := List.getElem?_eq_some_iff.1 h
    exact ⟨of_decide_eq_true e, h1, h2.symm⟩
  · cases h
theorem run_indexAt (hT : TabOk P T) {t : Nat} {ti : TI} (hti : T.get t = some ti) {e : Nat} (hk : ti.kind = .sl e) {E : Ty} (hE : ti.ty = .sl E) {b off len cap : Nat} {k : IntKind} {n : Int} (h0 : 0 ≤ n) (h1 : n.toNat < len) :
    (Instr.indexAt t (.slice (some ⟨b, off, none⟩) len cap) (.int k n)).run P w = .ok (.pointer (some ⟨b, off + n.toNat * width E, none⟩)) w := by
  obtain ⟨hu, hz⟩ := hT.sl hti hk
  obtain ⟨j, z, hj, hs, _⟩ := zeroB_spec (hz E hE)
  have hlt : n < (len : Int) := by omega
  simp [Instr.indexAt, run_underlying hu, asIntOf, h0, hlt, sizeOf, typeInfo, hj, hs, add_none]
theorem run_indexAddr (hT : TabOk P T) {t : Nat} {ti : TI} (hti : T.get t = some ti) {e : Nat} (hk : ti.kind = .sl e) {E : Ty} (hE : ti.ty = .sl E) {b off len cap : Nat} {k : IntKind} {n : Int} (h0 : 0 ≤ n) (h1 : n.toNat < len) {x ix : Operand}
    (ex : a.eval x = .slice (some ⟨b, off, none⟩) len cap) (ei : a.eval ix = .int k n) :
    (execOp a.eval ⟨dst, .indexAddr t x ix, ty, pos, after, guard⟩).run P w = .ok (.value (.pointer (some ⟨b, off + n.toNat * width E, none⟩))) w := by
  simp [execOp, ex, ei, run_indexAt hT hti hk hE h0 h1]
theorem ownLoc_rep {o : Operand} {v : AV Ω} {x : Value} {at_ : Option Loc} (hv : RepAV C G w at_ v x) {l : Loc} {id : Id} (h : ownLoc o v = some (l, id)) : ∃ bs, G.Γ id = some (x, bs) := by
  unfold ownLoc at h
  split at h
  · cases h; exact hv.1
  · cases h; obtain ⟨l', bs, _, hΓ, _⟩ := hv; exact ⟨bs, hΓ⟩
  · cases h; obtain ⟨l', _, hΓ, _⟩ := hv; exact hΓ
  · cases h
theorem arrG_runs (hr : Rep C G N used st a w) {o : Operand} {v : AV Ω} {x : Value} (hv : ∀ l id, ownLoc o v = some (l, id) → ∃ bs, G.Γ id = some (x, bs))
    {f : Loc → Id → (e : Ty) → List (El e) → Prg Ω} (h : (arrG o v f).Runs st acc rs ws) :
    ∃ l id e xs acc', (f l id e xs).Runs st acc' rs ws ∧ st.get l = .one (.arr id e xs) ∧ (∃ bs, G.Γ id = some (x, bs)) ∧ ArrRep G.ρ w (.at_ l) e xs x := by
  unfold arrG at h
  split at h
  · rename_i l id ho
    have hΓ := hv l id ho
    have h' : Prg.Runs st (match st.get l with
      | .one (.arr id' e xs) => (match idB id id' with | true => f l id' e xs | false => .fail)
      | _ => .fail) (l :: acc) rs ws := h
    split at h'
    · rename_i id' e xs hl
      split at h'
      · rename_i hid
        have ha := ali_arr hr hΓ hl hid
        obtain rfl := idB_iff.1 hid
        exact ⟨_, _, _, _, _, h', hl, hΓ, ha⟩
      · exact h'.elim
    · exact h'.elim
  · exact h.elim
theorem mapG_runs (hr : Rep C G N used st a w) {o : Operand} {v : AV Ω} {x : Value} (hv : ∀ l id, ownLoc o v = some (l, id) → ∃ bs, G.Γ id = some (x, bs))
    {f : Loc → Id → (k v : Ty) → List (El k × El v) → Prg Ω} (h : (mapG o v f).Runs st acc rs ws) :
    ∃ l id k v m acc' bs, (f l id k v m).Runs st acc' rs ws ∧ st.get l = .one (.omp id k v m) ∧ G.Γ id = some (x, bs) ∧ MapRep G.ρ w (.at_ l) k v m x bs := by
  unfold mapG at h
  split at h
  · rename_i l id ho
    obtain ⟨bs, hΓ⟩ := hv l id ho
    have h' : Prg.Runs st (match st.get l with
      | .one (.omp id' k v m) => (match idB id id' with | true => f l id' k v m | false => .fail)
      | _ => .fail) (l :: acc) rs ws := h
    split at h'
    · rename_i id' k v m hl
      split at h'
      · rename_i hid
        have ha := ali_omp hr hΓ hl hid
        obtain rfl := idB_iff.1 hid
        exact ⟨_, _, _, _, _, _, bs, h', hl, hΓ, ha⟩
      · exact h'.elim
    · exact h'.elim
  · exact h.elim
theorem ok_indexAddr (hT : TabOk P T) {t : Nat} {x ix : Operand} (hd : ∀ d, dst = some d → d < N) : OpOk P C N rc i ⟨dst, .indexAddr t x ix, ty, pos, after, guard⟩
    (Prg.opt (T.get t) fun ti => (match ti.kind, ti.ty with
      | .sl _, .sl E => opG x fun v => opG ix fun w => intOf w fun n => (match v with
        | .one (.dat (.sl e) xs) => (match Nat.beq (width E) (width e) with | true => .bind (idx xs n) fun y => putP ⟨dst, .indexAddr t x ix, ty, pos, after, guard⟩ (.one (.eptr e y)) | false => .fail)
        | v => arrG x v fun l id e xs => (match Nat.beq (width E) (width e) with | true => .bind (idx xs n) fun _ => putP ⟨dst, .indexAddr t x ix, ty, pos, after, guard⟩ (.one (.aptr l id (width e) n 0)) | false => .fail))
      | _, _ => .fail)) := by
  intro G used st a w acc rs ws hr hf h K Q hK
  obtain ⟨ti, hti, h⟩ := runs_opt h
  split at h
  · rename_i e0 E hk hE
    obtain ⟨v, acc1, h, hv, hs⟩ := runs_opG hr h
    obtain ⟨vi, acc2, h, hi, -⟩ := runs_opG hr h
    obtain ⟨k, n, rfl, h⟩ := intOf_runs h
    have ei := dat_int hi
    split at h
    · split at h
      · rename_i hw
        have hw := Nat.eq_of_beq_eq_true hw
        obtain ⟨y, hy, h⟩ := h
        obtain ⟨h0, h1, rfl⟩ := idx_some hy
        obtain ⟨ad, cap, ev, hcap, hx⟩ := hv
        obtain ⟨b, off, rfl, hb, hx⟩ := hx (by intro e; subst e; simp at h1)
        obtain ⟨l, hr', hat⟩ := hx _ h1
        have ex := (List.cons.inj ev).1
        exact fin_any hd hr hK h trivial (run_indexAddr hT hti hk hE h0 h1 ex ei) ⟨b, _, l, rfl, hb, hr', by rw [hw]; exact hat⟩
      · exact h.elim
    · obtain ⟨l, id, e, xs, acc3, h, hl, ⟨bs, hΓ⟩, ha⟩ := arrG_runs hr (fun _ _ => ownLoc_rep hv) h
      split at h
      · rename_i hw
        have hw := Nat.eq_of_beq_eq_true hw
        obtain ⟨y, hy, h⟩ := h
        obtain ⟨h0, h1, rfl⟩ := idx_some hy
        rcases ha with ⟨rfl, _⟩ | ⟨b, off, cap, c, el, ex, hcap, hb, hh, hsz, hx⟩
        · simp at h1
        · refine fin_any hd hr hK h trivial (run_indexAddr hT hti hk hE h0 h1 ex ei) ⟨b, off, xs.length, cap, bs, by rw [hΓ, ex], h0, by omega, ?_⟩
          rw [hw, Nat.add_zero]
      · exact h.elim
  · exact h.elim
/-! ### reads -/
theorem At.cell {b off : Nat} {l : List Value} (h : At w b off l) {i : Nat} {v : Value} (hi : l[i]? = some v) : w.cell? ⟨b, off + i, none⟩ = some v := by
  obtain ⟨c, el, fz, hh, hc⟩ := h
  simp [World.cell?, hh, hc _ _ hi]
theorem run_loadVar (hT : TabOk P T) {t : Nat} {ti : TI} (hti : T.get t = some ti) {b off : Nat} {l : List Value} (hl : l.length = ti.size) (hc : ∀ i v, l[i]? = some v → w.cell? ⟨b, off + i, none⟩ = some v) (h1 : isSt ti.kind = false → l.length = 1) :
    ∃ v, (loadVar t ⟨b, off, none⟩).run P w = .ok v w ∧ (match isSt ti.kind with | true => v = .agg l.toArray | false => l = [v]) := by
  obtain ⟨d, hu, hd⟩ := hT.agg hti
  obtain ⟨j, hj, hs⟩ := hT.info hti
  have hagg : (isAgg t).run P w = .ok (isSt ti.kind) w := by
    rw [← hd]
    cases d <;> simp [isAgg, run_underlying hu]
  cases hk : isSt ti.kind with
  | true =>
    have hll := run_loadCells_list (P := P) w ⟨b, off, none⟩ l (fun i v hi => by rw [add_none]; exact hc i v hi)
    exact ⟨.agg l.toArray, by simp [loadVar, hagg, hk, sizeOf, typeInfo, hj, hs, ← hl, hll], rfl⟩
  | false =>
    match l, h1 hk with
    | [v], _ =>
      have := hc 0 v rfl
      rw [Nat.add_zero] at this
      exact ⟨v, by simp [loadVar, hagg, hk, this] , rfl⟩
theorem run_load {t : Nat} {x : Operand} {b off : Nat} (e : a.eval x = .pointer (some ⟨b, off, none⟩)) {v : Value} (h : (loadVar t ⟨b, off, none⟩).run P w = .ok v w) :
    (execOp a.eval ⟨dst, .load t x, ty, pos, after, guard⟩).run P w = .ok (.value v) w := by
  simp [execOp, e, Instr.loadAt, Instr.sureAddr, h]
/-- What a box's leaves stand for, looked at. -/
theorem getN_runs (hr : Rep C G N used st a w) {id : Id} {b nb : Nat} (hb : G.β id = some (b, nb)) : ∀ (n j : Nat) {f : List (Leaf Ω) → Prg Ω} {acc : List Loc}, (getN id j n f).Runs st acc rs ws →
    ∃ ls acc' l, (f ls).Runs st acc' rs ws ∧ ls.length = n ∧ All2 (RepL C G w none) ls l ∧ ∀ k v, l[k]? = some v → w.cell? ⟨b, j + k, none⟩ = some v := by
  intro n
  induction n with
  | zero => intro j f acc h; exact ⟨[], acc, [], h, rfl, .nil, fun k v hk => by simp at hk⟩
  | succ n ih =>
    intro j f acc h
    have hat := hr.at_ (.box id j)
    have h' : Prg.Runs st (match st.get (.box id j) with
      | .one (.arr id' _ _) => getN id (j + 1) n fun ls => f (.ali (.box id j) id' :: ls)
      | .one (.omp id' _ _ _) => getN id (j + 1) n fun ls => f (.ali (.box id j) id' :: ls)
      | .one .dead => .fail
      | .one l => getN id (j + 1) n fun ls => f (l :: ls)
      | _ => .fail) (.box id j :: acc) rs ws := h
    generalize hg : st.get (.box id j) = u at hat h'
    have fin : ∀ (y : Leaf Ω) (v : Value), (getN id (j + 1) n fun ls => f (y :: ls)).Runs st (.box id j :: acc) rs ws → w.cell? ⟨b, j, none⟩ = some v → RepL C G w none y v →
        ∃ ls acc' l, (f ls).Runs st acc' rs ws ∧ ls.length = n + 1 ∧ All2 (RepL C G w none) ls l ∧ ∀ k v, l[k]? = some v → w.cell? ⟨b, j + k, none⟩ = some v := by
      intro y v h hc hy
      obtain ⟨ls, acc', l, h2, hlen, hx, hcs⟩ := ih (j + 1) h
      refine ⟨y :: ls, acc', v :: l, h2, by simp [hlen], .cons hy hx, fun k u hk => ?_⟩
      cases k with
      | zero => obtain rfl : v = u := by simpa using hk
                exact hc
      | succ k => rw [show j + (k + 1) = j + 1 + k by omega]; exact hcs k u (by simpa using hk)
    cases u with
    | one lf =>
      rcases hat with hdead | ⟨b', n', v, hb', hcell, hrep⟩
      · cases hdead; exact h'.elim
      · rw [hb] at hb'
        cases hb'
        cases lf with
        | arr id' e xs =>
          obtain ⟨l', e1, e2, h⟩ := hrep
          exact fin (.ali (.box id j) id') v h' hcell ⟨e2, by obtain ⟨ad, cap, rfl, _⟩ := h.header; rfl⟩
        | omp id' k vt m =>
          obtain ⟨l', bs, e1, e2, h⟩ := hrep
          exact fin (.ali (.box id j) id') v h' hcell ⟨⟨bs, e2⟩, by obtain ⟨b, es, clock, rfl, _⟩ := h; rfl⟩
        | dead => exact h'.elim
        | opq s => exact hrep.elim
        | _ => exact fin _ v h' hcell hrep
    | agg ls' => exact h'.elim
    | tup ps => exact h'.elim
theorem ok_load (hT : TabOk P T) {t : Nat} {x : Operand} (hd : ∀ d, dst = some d → d < N) : OpOk P C N rc i ⟨dst, .load t x, ty, pos, after, guard⟩
    (Prg.opt (T.get t) fun ti => opG x fun v => (match v with
      | .one (.ref b off _) => getN b off ti.size fun ls => (match loadB ti ls with | true => putP ⟨dst, .load t x, ty, pos, after, guard⟩ (avOf (isSt ti.kind) ls) | false => .fail)
      | .one (.eptr r y) => (match loadB ti (unpack (Ω := Ω) r y) with
        | true => putP ⟨dst, .load t x, ty, pos, after, guard⟩ (avOf (isSt ti.kind) (unpack r y))
        | false => .fail)
      | .one (.aptr l id sz n off) => .get l fun u => (match u with
        | .one (.arr id' e xs) => (match and (idB id id') (Nat.beq sz (width e)) with
          | true => .bind (idx xs n) fun y => (match loadB ti (((unpack (Ω := Ω) e y).drop off).take ti.size) with
            | true => putP ⟨dst, .load t x, ty, pos, after, guard⟩ (avOf (isSt ti.kind) (((unpack e y).drop off).take ti.size))
            | false => .fail)
          | false => .fail)
        | _ => .fail)
      | _ => .fail)) := by
  intro G used st a w acc rs ws hr hf h K Q hK
  obtain ⟨ti, hti, h⟩ := runs_opt h
  obtain ⟨v, acc1, h, hv, -⟩ := runs_opG hr h
  have fin : ∀ {b off : Nat} {ls : List (Leaf Ω)} {l : List Value} {acc : List Loc}, a.eval x = .pointer (some ⟨b, off, none⟩) → loadB ti ls = true → All2 (RepL C G w none) ls l → (∀ k v, l[k]? = some v → w.cell? ⟨b, off + k, none⟩ = some v) →
      (putP ⟨dst, .load t x, ty, pos, after, guard⟩ (avOf (isSt ti.kind) ls)).Runs st acc rs ws → (⟨dst, .load t x, ty, pos, after, guard⟩ : Oper).wp P a w K Q := by
    intro b off ls l acc e hb ha hc h
    have hlen := ha.length
    simp only [loadB, Bool.and_eq_true, Bool.or_eq_true] at hb
    have h1 := Nat.eq_of_beq_eq_true hb.1
    obtain ⟨u, hu, hag⟩ := run_loadVar hT hti (b := b) (off := off) (l := l) (by omega) hc (fun h => by
      rcases hb.2 with h2 | h2
      · rw [h] at h2; cases h2
      · have := Nat.eq_of_beq_eq_true h2; omega)
    exact fin_any hd hr hK h (noOwn_avOf ha) (run_load e hu) (avOf_rep ha hag)
  split at h
  · obtain ⟨b, hb, e⟩ := hv
    obtain ⟨ls, acc2, l, h, hlen, hx, hc⟩ := getN_runs hr hb _ _ h
    split at h
    · exact fin e ‹_› hx hc h
    · exact h.elim
  · obtain ⟨b, off, l, e, hb, hc, hat⟩ := hv
    split at h
    · exact fin e ‹_› (unpack_rep hc) (fun k v hk => hat.cell hk) h
    · exact h.elim
  · rename_i l id sz n off
    obtain ⟨b, o', len, cap, bs, hΓ, h0, h1, e⟩ := hv
    have h' : Prg.Runs st (match st.get l with
      | .one (.arr id' e xs) => (match and (idB id id') (Nat.beq sz (width e)) with
        | true => .bind (idx xs n) fun y => (match loadB ti (((unpack (Ω := Ω) e y).drop off).take ti.size) with
          | true => putP ⟨dst, .load t x, ty, pos, after, guard⟩ (avOf (isSt ti.kind) (((unpack e y).drop off).take ti.size))
          | false => .fail)
        | false => .fail)
      | _ => .fail) (l :: acc1) rs ws := h
    split at h'
    · rename_i id' e' xs hl
      split at h'
      · rename_i hid
        rw [Bool.and_eq_true] at hid
        obtain rfl := Nat.eq_of_beq_eq_true hid.2
        obtain ⟨y, hy, h'⟩ := h'
        obtain ⟨h2, h3, rfl⟩ := idx_some hy
        have ha := ali_arr hr ⟨bs, hΓ⟩ hl hid.1
        rcases ha with ⟨rfl, _⟩ | ⟨b2, off2, cap2, c, el, ex, hcap, hb2, hh, hsz, hx⟩
        · simp at h3
        · cases ex
          obtain ⟨vs, hrv, hat⟩ := hx _ h3
          simp only [] at h'
          split at h'
          · refine fin e ‹_› (((unpack_rep hrv).drop off).take ti.size) (fun k v hk => ?_) h'
            have hsub := (At.sub (w := w) (b := b) (off := o' + n.toNat * width e') (l := vs) ⟨c, el, _, hh, hat⟩ off ti.size).cell hk
            exact hsub
          · exact h'.elim
      · exact h'.elim
    · exact h'.elim
  · exact h.elim
end
end Go.Proofs.Ytbgefphoochgcaa.FE
/- FE, part 11: operations that change no memory: lengths, parts of slices, structs, look-ups. -/
namespace Go.Proofs.Ytbgefphoochgcaa.FE
open Go
set_option linter.unusedVariables false
set_option linter.unusedSimpArgs false
section
variable {Ω : Type} {C : CloRep Ω} {P : Program} {T : Tab} {N : Nat}
variable {rc i : Nat} {dst : Option Nat} {ty : Nat} {pos : String} {after : Array Edge} {guard : Option (Nat × Bool)}
variable {G : Ghost} {used : Id → Prop} {st ws : S Ω} {a : Act} {w : World} {acc rs : List Loc} {o : Oper} {K : Act → World → Prop} {Q : Exit → Act → World → Prop}

/-! ### calls of builtins -/
theorem map_two {α β : Type} {f : α → β} {xs : Array α} {x y : α} (h : xs.toList = [x, y]) : xs.map f = #[f x, f y] := by
  apply Array.toList_inj.1; simp [h]
theorem map_one {α β : Type} {f : α → β} {xs : Array α} {x : α} (h : xs.toList = [x]) : xs.map f = #[f x] := by
  apply Array.toList_inj.1; simp [h]
theorem toList_one {α : Type} {xs : Array α} {x : α} (h : xs.toList = [x]) : xs = #[x] := by apply Array.toList_inj.1; simp [h]
theorem toList_two {α : Type} {xs : Array α} {x y : α} (h : xs.toList = [x, y]) : xs = #[x, y] := by apply Array.toList_inj.1; simp [h]
theorem run_builtin {c : Call} {b : Builtin} (hc : c.callee = .builtin b) {v : Value} {w' : World} {args : Array Value} (ha : c.args.map a.eval = args)
    (hb : ∀ consts, (Go.builtin b c.argTypes ty consts args).run P w = .ok (.value v) w') :
    (execOp a.eval ⟨dst, .call c, ty, pos, after, guard⟩).run P w = .ok (.value v) w' := by
  simp [execOp, Go.resolve, hc, ha, invoke, hb]
theorem RepB.int {k : IntKind} {n : Int} {v : Value} (h : RepB C G w (.one (.dat (.int k) n)) v) : v = .int k n := by
  have : [v] = [Value.int k n] := h
  simpa using this
theorem RepB.str {s : ByteArray} {v : Value} (h : RepB C G w (.one (.dat .str s)) v) : v = .string s := by
  have : [v] = [Value.string s] := h
  simpa using this
theorem RepB.sl {e : Ty} {xs : List (El e)} {v : Value} (h : RepB C G w (.one (.dat (.sl e) xs)) v) : ∃ ad cap, v = .slice ad xs.length cap := by
  obtain ⟨ad, cap, e, _⟩ := h
  exact ⟨ad, cap, (List.cons.inj e).1⟩
theorem RepB.mp {k v : Ty} {m : List (El k × El v)} {u : Value} (h : RepB C G w (.one (.dat (.mp k v) m)) u) : (u = .map none ∧ m = []) ∨ ∃ b es clock, u = .map (some b) ∧ w.heap[b]? = some (.map es clock) ∧ es.size = m.length := by
  obtain ⟨r, e, h⟩ := h
  have e := (List.cons.inj e).1
  rcases h with ⟨rfl, rfl⟩ | ⟨b, es, clock, rfl, _, hh, hs, _⟩
  · exact .inl ⟨e, rfl⟩
  · exact .inr ⟨b, es, clock, e, hh, hs⟩
theorem run_getObj {b : Nat} {es : Array MapEntry} {clock : Nat} (h : w.heap[b]? = some (.map es clock)) : (getObj b).run P w = .ok (.map es clock) w := by
  simp [getObj, Sem.run, h]
theorem ok_len (hT : TabOk P T) {c : Call} (hc : c.callee = .builtin .len) (hd : ∀ d, dst = some d → d < N) : OpOk P C N rc i ⟨dst, .call c, ty, pos, after, guard⟩
    (match c.args.toList, c.argTypes.toList with
      | [x], [t] => Prg.opt (T.get t) fun ti => opG x fun v => borrow v fun u => (match ti.kind, u with
        | .sl _, .one (.dat (.sl _) xs) => putP ⟨dst, .call c, ty, pos, after, guard⟩ (.one (.dat (.int .i64) (xs.length : Int)))
        | .mp _ _, .one (.dat (.mp _ _) xs) => putP ⟨dst, .call c, ty, pos, after, guard⟩ (.one (.dat (.int .i64) (xs.length : Int)))
        | .str, .one (.dat .str s) => putP ⟨dst, .call c, ty, pos, after, guard⟩ (.one (.dat (.int .i64) (s.size : Int)))
        | .sl _, .one .nilS => putP ⟨dst, .call c, ty, pos, after, guard⟩ (.one (.dat (.int .i64) (0 : Int)))
        | .mp _ _, .one .nilM => putP ⟨dst, .call c, ty, pos, after, guard⟩ (.one (.dat (.int .i64) (0 : Int)))
        | _, _ => .fail)
      | _, _ => .fail) := by
  intro G used st a w acc rs ws hr hf h K Q hK
  split at h
  · rename_i x t ha ht
    obtain ⟨ti, hti, h⟩ := runs_opt h
    obtain ⟨v, acc1, h, hv, hs⟩ := runs_opG hr h
    obtain ⟨u, acc2, h, hu⟩ := runs_borrow hr hv h
    have hat := toList_one ht
    have fin : ∀ {n : Int} {acc : List Loc}, (∀ consts, (Go.builtin .len c.argTypes ty consts #[a.eval x]).run P w = .ok (.value (.int .i64 n)) w) →
        (putP ⟨dst, .call c, ty, pos, after, guard⟩ (.one (.dat (.int .i64) n))).Runs st acc rs ws → (⟨dst, .call c, ty, pos, after, guard⟩ : Oper).wp P a w K Q :=
      fun hb h => fin_dat hd hr hK h (run_builtin hc (map_one ha) hb) rfl
    split at h
    · rename_i e0 _ _ hk
      have hul := (hT.sl hti hk).1
      obtain ⟨ad, cap, e⟩ := hu.sl
      exact fin (fun consts => by simp [Go.builtin, Builtin.len_, hat, run_underlying hul, e, goInt]) h
    · rename_i k0 v0 _ _ _ hk
      have hul := (hT.mp hti hk).1
      rcases hu.mp with ⟨e, rfl⟩ | ⟨b, es, clock, e, hh, hsz⟩
      · exact fin (fun consts => by simp [Go.builtin, Builtin.len_, hat, run_underlying hul, e, goInt]) h
      · exact fin (fun consts => by simp [Go.builtin, Builtin.len_, hat, run_underlying hul, e, goInt, run_getObj hh, hsz]) h
    · have hul := hT.str hti ‹_›
      have e := hu.str
      exact fin (fun consts => by simp [Go.builtin, Builtin.len_, hat, run_underlying hul, e, goInt]) h
    · rename_i e0 hk
      have hul := (hT.sl hti hk).1
      have e : a.eval x = .slice none 0 0 := hu
      exact fin (fun consts => by simp [Go.builtin, Builtin.len_, hat, run_underlying hul, e, goInt]) h
    · rename_i k0 v0 hk
      have hul := (hT.mp hti hk).1
      have e : a.eval x = .map none := hu
      exact fin (fun consts => by simp [Go.builtin, Builtin.len_, hat, run_underlying hul, e, goInt]) h
    · exact h.elim
  · exact h.elim
theorem imax_eq (a b : Int) : (if b > a then b else a) = imax a b := by
  unfold imax
  by_cases h : b > a <;> simp [h]
theorem imin_eq (a b : Int) : (if b < a then b else a) = imin a b := by
  unfold imin
  by_cases h : b < a <;> simp [h]
theorem ok_max {c : Call} (hc : c.callee = .builtin .max) (hd : ∀ d, dst = some d → d < N) : OpOk P C N rc i ⟨dst, .call c, ty, pos, after, guard⟩
    (match c.args.toList with
      | [x, y] => opG x fun v => opG y fun w => (match v, w with | .one (.dat (.int k) a), .one (.dat (.int _) b) => putP ⟨dst, .call c, ty, pos, after, guard⟩ (.one (.dat (.int k) (imax a b))) | _, _ => .fail)
      | _ => .fail) := by
  intro G used st a w acc rs ws hr hf h K Q hK
  split at h
  · rename_i x y ha
    obtain ⟨v, acc1, h, hv, -⟩ := runs_opG hr h
    obtain ⟨u, acc2, h, hu, -⟩ := runs_opG hr h
    split at h
    · have e1 := dat_int hv
      have e2 := dat_int hu
      refine fin_dat hd hr hK h (run_builtin hc (map_two ha) fun consts => ?_) rfl
      simp [Go.builtin, Builtin.max_, e1, e2, Builtin.max2, ← imax_eq]
    · exact h.elim
  · exact h.elim
theorem ok_min {c : Call} (hc : c.callee = .builtin .min) (hd : ∀ d, dst = some d → d < N) : OpOk P C N rc i ⟨dst, .call c, ty, pos, after, guard⟩
    (match c.args.toList with
      | [x, y] => opG x fun v => opG y fun w => (match v, w with | .one (.dat (.int k) a), .one (.dat (.int _) b) => putP ⟨dst, .call c, ty, pos, after, guard⟩ (.one (.dat (.int k) (imin a b))) | _, _ => .fail)
      | _ => .fail) := by
  intro G used st a w acc rs ws hr hf h K Q hK
  split at h
  · rename_i x y ha
    obtain ⟨v, acc1, h, hv, -⟩ := runs_opG hr h
    obtain ⟨u, acc2, h, hu, -⟩ := runs_opG hr h
    split at h
    · have e1 := dat_int hv
      have e2 := dat_int hu
      refine fin_dat hd hr hK h (run_builtin hc (map_two ha) fun consts => ?_) rfl
      simp [Go.builtin, Builtin.min_, e1, e2, Builtin.min2, ← imin_eq]
    · exact h.elim
  · exact h.elim
end
end Go.Proofs.Ytbgefphoochgcaa.FE
/- FE, part 12: operations that change no memory: parts of slices, structs, look-ups. -/
namespace Go.Proofs.Ytbgefphoochgcaa.FE
open Go
set_option linter.unusedVariables false
set_option linter.unusedSimpArgs false
section
variable {Ω : Type} {C : CloRep Ω} {P : Program} {T : Tab} {N : Nat}
variable {rc i : Nat} {dst : Option Nat} {ty : Nat} {pos : String} {after : Array Edge} {guard : Option (Nat × Bool)}
variable {G : Ghost} {used : Id → Prop} {st ws : S Ω} {a : Act} {w : World} {acc rs : List Loc} {o : Oper} {K : Act → World → Prop} {Q : Exit → Act → World → Prop}

def isBound (a : Act) (o : Option Operand) (d n : Int) : Prop := match o with | none => n = d | some x => ∃ k, a.eval x = .int k n
theorem optInt_runs (hr : Rep C G N used st a w) {o : Option Operand} {d : Int} {f : Int → Prg Ω} (h : (optInt o d f).Runs st acc rs ws) : ∃ n acc', (f n).Runs st acc' rs ws ∧ isBound a o d n := by
  cases o with
  | none => exact ⟨d, acc, h, rfl⟩
  | some x =>
    obtain ⟨v, acc1, h, hv, -⟩ := runs_opG hr h
    obtain ⟨k, n, rfl, h⟩ := intOf_runs h
    exact ⟨n, acc1, h, k, dat_int hv⟩
theorem run_sliceBound {k : IntKind} {n : Int} {y : Nat} {code : BoundsCode} (h0 : 0 ≤ n) (h1 : n ≤ (y : Int)) : (Instr.sliceBound (.int k n) y code).run P w = .ok n.toNat w := by
  simp [Instr.sliceBound, asIntOf, h0, h1]
theorem run_sliceAt {t e : Nat} (hu : P.underlying t = some (.slice e)) {j : TypeInfo} (hj : P.info? e = some j) {ad : Option Addr} {len cap : Nat} (hcap : len ≤ cap) {lo hi : Option Operand} {l h : Int}
    (hl : isBound a lo 0 l) (hh : isBound a hi (len : Int) h) (h0 : 0 ≤ l) (h1 : l ≤ h) (h2 : h ≤ (len : Int)) :
    (Instr.sliceAt t (.slice ad len cap) (lo.map a.eval) (hi.map a.eval) none).run P w = .ok (cutV ad cap j.size l h) w := by
  have hb : (Instr.sliceBounds true len cap (lo.map a.eval) (hi.map a.eval) none).run P w = .ok (l.toNat, h.toNat, cap) w := by
    cases hi with
    | none =>
      obtain rfl : h = len := hh
      cases lo with
      | none => obtain rfl : l = 0 := hl; simp [Instr.sliceBounds]
      | some y => obtain ⟨k, e⟩ := hl; simp [Instr.sliceBounds, e, run_sliceBound h0 h1]
    | some x =>
      obtain ⟨k, e⟩ := hh
      have r1 : ∀ code, (Instr.sliceBound (.int k h) cap code).run P w = .ok h.toNat w := fun _ => run_sliceBound (by omega) (by omega)
      cases lo with
      | none => obtain rfl : l = 0 := hl; simp [Instr.sliceBounds, e, r1]
      | some y =>
        obtain ⟨k', e'⟩ := hl
        have r2 : ∀ code, (Instr.sliceBound (.int k' l) h.toNat code).run P w = .ok l.toNat w := fun _ => run_sliceBound h0 (by omega)
        simp [Instr.sliceBounds, e, e', r1, r2]
  simp only [Instr.sliceAt, Sem.run_bind, run_underlying hu, Result.andThen_ok, Instr.slice, hb, sizeOf, typeInfo, run_program, hj, Sem.run_pure, cutV, Tables.info?] at *
  have hc : (cap = l.toNat) ↔ ((cap : Int) = l) := by omega
  have hn : h.toNat - l.toNat = (h - l).toNat := by omega
  simp [hj, hc, hn]
theorem run_slice_op {t e : Nat} (hu : P.underlying t = some (.slice e)) {j : TypeInfo} (hj : P.info? e = some j) {ad : Option Addr} {len cap : Nat} (hcap : len ≤ cap) {lo hi : Option Operand} {l h : Int} {x : Operand} (ex : a.eval x = .slice ad len cap)
    (hl : isBound a lo 0 l) (hh : isBound a hi (len : Int) h) (h0 : 0 ≤ l) (h1 : l ≤ h) (h2 : h ≤ (len : Int)) {sz : Nat} (hs : j.size = sz) :
    (execOp a.eval ⟨dst, .slice t x lo hi none, ty, pos, after, guard⟩).run P w = .ok (.value (cutV ad cap sz l h)) w := by
  have := run_sliceAt (w := w) (ad := ad) hu hj hcap hl hh h0 h1 h2
  rw [hs] at this
  simp [execOp, ex, this]
theorem ok_slice (hT : TabOk P T) {t : Nat} {x : Operand} {lo hi : Option Operand} (hd : ∀ d, dst = some d → d < N) : OpOk P C N rc i ⟨dst, .slice t x lo hi none, ty, pos, after, guard⟩
    (Prg.opt (T.get t) fun ti => (match ti.kind, ti.ty with
      | .sl _, .sl E => opG x fun v => (match v with
        | .one (.dat (.sl e) xs) => (match Nat.beq (width E) (width e) with
          | true => optInt lo 0 fun a => optInt hi (xs.length : Int) fun b => .bind (cut xs a b) fun ys => putP ⟨dst, .slice t x lo hi none, ty, pos, after, guard⟩ (.one (.dat (.sl e) ys))
          | false => .fail)
        | v => arrG x v fun l id e xs => (match Nat.beq (width E) (width e) with
          | true => optInt lo 0 fun a => optInt hi (xs.length : Int) fun b => .bind (cut xs a b) fun ys => putP ⟨dst, .slice t x lo hi none, ty, pos, after, guard⟩ (.one (.avw l id (width e) a b))
          | false => .fail))
      | _, _ => .fail)) := by
  intro G used st a w acc rs ws hr hf h K Q hK
  obtain ⟨ti, hti, h⟩ := runs_opt h
  split at h
  · rename_i e0 E hk hE
    obtain ⟨hu, hz⟩ := hT.sl hti hk
    obtain ⟨j, z, hj, hs, _⟩ := zeroB_spec (hz E hE)
    obtain ⟨v, acc1, h, hv, hsrc⟩ := runs_opG hr h
    split at h
    · split at h
      · rename_i hw
        have hw := Nat.eq_of_beq_eq_true hw
        obtain ⟨l, acc2, h, hl⟩ := optInt_runs hr h
        obtain ⟨b, acc3, h, hb⟩ := optInt_runs hr h
        obtain ⟨ys, hy, h⟩ := h
        have hv' := hv
        obtain ⟨ad, cap, ev, hcap, _⟩ := hv'
        have ex := (List.cons.inj ev).1
        obtain ⟨h0, h1, h2, _⟩ := cut_some hy
        refine fin_dat hd hr hK h (run_slice_op hu hj hcap ex hl hb h0 h1 h2 (hs.trans hw)) ?_
        have hv2 : RepC w G.O (.sl _) _ [a.eval x] := hv
        rw [ex] at hv2
        exact hv2.cut hy
      · exact h.elim
    · obtain ⟨l', id, e, xs, acc2, h, hl', ⟨bs, hΓ⟩, ha⟩ := arrG_runs hr (fun _ _ => ownLoc_rep hv) h
      split at h
      · rename_i hw
        have hw := Nat.eq_of_beq_eq_true hw
        obtain ⟨l, acc2, h, hl⟩ := optInt_runs hr h
        obtain ⟨b, acc3, h, hb⟩ := optInt_runs hr h
        obtain ⟨ys, hy, h⟩ := h
        obtain ⟨ad, cap, ex, hcap⟩ := ha.header
        obtain ⟨h0, h1, h2, _⟩ := cut_some hy
        exact fin_any hd hr hK h trivial (run_slice_op hu hj hcap ex hl hb h0 h1 h2 (hs.trans hw)) ⟨ad, xs.length, cap, bs, by rw [hΓ, ex], h0, h1, h2, hcap, rfl⟩
      · exact h.elim
  · exact h.elim

/-! ### look-ups -/
theorem keyB_spec {t : Nat} {Kt : Ty} (h : keyB P t Kt = true) : (∃ k, Kt = .int k ∧ P.underlying t = some (.int k)) ∨ (Kt = .str ∧ P.underlying t = some .string) := by
  unfold keyB at h
  split at h
  · rename_i k k' e
    obtain rfl := IK_inj (Nat.eq_of_beq_eq_true h)
    exact .inl ⟨_, rfl, e⟩
  · rename_i e; exact .inr ⟨rfl, e⟩
  · cases h
theorem keyEq_str (x y : ByteArray) : keyEq .str x y = (x == y) := rfl
/-- A key, as a value. -/
def keyV : (Kt : Ty) → El Kt → Value
  | .int k, n => .int k n
  | .str, s => .string s
  | _, _ => undef
theorem run_checkKey {t : Nat} {Kt : Ty} (hk : keyB P t Kt = true) (x : El Kt) (e : Bool) : (Instr.checkKey e 10000 t (keyV Kt x)).run P w = .ok () w := by
  show (Instr.checkKey e (9999 + 1) t (keyV Kt x)).run P w = .ok () w
  rw [Instr.checkKey]
  rcases keyB_spec hk with ⟨k, rfl, hu⟩ | ⟨rfl, hu⟩ <;> simp [run_underlying hu, keyV]
theorem findNow_look {d : TypeDesc} {Kt Vt : Ty} (hd : (∃ k, Kt = .int k ∧ d = .int k) ∨ (Kt = .str ∧ d = .string)) {O : Nat → Prop} (x : El Kt) : ∀ (m : List (El Kt × El Vt)) (es : List MapEntry) (n : Nat), es.length = m.length →
    (∀ j (h : j < m.length), ∃ en, es[j]? = some en ∧ RepV w O Kt m[j].1 en.key ∧ RepV w O Vt m[j].2 en.val) →
    (match look m x with
      | none => Instr.findNow d (keyV Kt x) es n = some none
      | some y => ∃ v, Instr.findNow d (keyV Kt x) es n = some (some (n + posOf m x, v)) ∧ RepV w O Vt y v) ∧ (look m x = none ↔ posOf m x = m.length)
  | [], [], n, _, _ => ⟨rfl, by simp [look, posOf]⟩
  | (k0, v0) :: m, [], n, hl, _ => by simp at hl
  | [], e :: es, n, hl, _ => by simp at hl
  | (k0, v0) :: m, e :: es, n, hl, hx => by
    obtain ⟨en, h1, h2, h3⟩ := hx 0 (by simp)
    obtain rfl : e = en := by simpa using h1
    have ih := findNow_look hd (Vt := Vt) x m es (n + 1) (by simpa using hl) (fun j hj => by
      obtain ⟨en, h1, h2⟩ := hx (j + 1) (by simpa using hj)
      exact ⟨en, by simpa using h1, by simpa using h2⟩)
    have hsame : Instr.sameNow d (keyV Kt x) e.key = some (keyEq Kt x k0) := by
      rcases hd with ⟨k, rfl, rfl⟩ | ⟨rfl, rfl⟩
      · have e1 : [e.key] = [Value.int k k0] := h2
        have e1 := (List.cons.inj e1).1
        rw [e1]
        simp [Instr.sameNow, keyV, keyEq, beq_dec]
      · have e1 : [e.key] = [Value.string k0] := h2
        have e1 := (List.cons.inj e1).1
        rw [e1]
        rfl
    cases hq : keyEq Kt x k0 with
    | true =>
      have e1 : look ((k0, v0) :: m) x = some v0 := by simp [look, hq]
      have e2 : posOf ((k0, v0) :: m) x = 0 := by simp [posOf, hq]
      rw [e1, e2]
      refine ⟨⟨e.val, ?_, h3⟩, by simp⟩
      unfold Instr.findNow
      rw [hsame, hq]
      rfl
    | false =>
      have e1 : look ((k0, v0) :: m) x = look m x := by simp [look, hq]
      have e2 : posOf ((k0, v0) :: m) x = posOf m x + 1 := by simp [posOf, hq]
      have e3 : Instr.findNow d (keyV Kt x) (e :: es) n = Instr.findNow d (keyV Kt x) es (n + 1) := by
        conv => lhs; unfold Instr.findNow
        rw [hsame, hq]
      rw [e1, e2, e3]
      refine ⟨?_, by rw [ih.2]; simp⟩
      have := ih.1
      split at this
      · exact this
      · obtain ⟨v, h4, h5⟩ := this
        exact ⟨v, by rw [h4, show n + 1 + posOf m x = n + (posOf m x + 1) by omega], h5⟩
theorem keyD {t : Nat} {Kt : Ty} (hk : keyB P t Kt = true) : ∃ d, P.underlying t = some d ∧ ((∃ k, Kt = .int k ∧ d = .int k) ∨ (Kt = .str ∧ d = .string)) := by
  rcases keyB_spec hk with ⟨k, rfl, hu⟩ | ⟨rfl, hu⟩
  · exact ⟨_, hu, .inl ⟨k, rfl, rfl⟩⟩
  · exact ⟨_, hu, .inr ⟨rfl, rfl⟩⟩
theorem run_findKey {t : Nat} {Kt Vt : Ty} (hk : keyB P t Kt = true) {O : Nat → Prop} {x : El Kt} {m : List (El Kt × El Vt)} {es : Array MapEntry} (hl : es.size = m.length)
    (hx : ∀ j (h : j < m.length), ∃ en, es[j]? = some en ∧ RepV w O Kt m[j].1 en.key ∧ RepV w O Vt m[j].2 en.val) :
    (match look m x with
      | none => (Instr.findKey t (keyV Kt x) es.toList).run P w = .ok none w
      | some y => ∃ v, (Instr.findKey t (keyV Kt x) es.toList).run P w = .ok (some (posOf m x, v)) w ∧ RepV w O Vt y v) ∧ (look m x = none ↔ posOf m x = m.length) := by
  obtain ⟨d, hu, hd⟩ := keyD hk
  have h := findNow_look (w := w) (O := O) (Vt := Vt) hd x m es.toList 0 (by simpa using hl) (fun j hj => by simpa using hx j hj)
  refine ⟨?_, h.2⟩
  have h1 := h.1
  split at h1
  · simp [Instr.findKey, run_underlying hu, h1]
  · obtain ⟨v, h4, h5⟩ := h1
    exact ⟨v, by simp [Instr.findKey, run_underlying hu, h4], h5⟩
theorem key_val {t : Nat} {Kt : Ty} (hk : keyB P t Kt = true) {O : Nat → Prop} {x : El Kt} {v : Value} (h : RepC w O Kt x v.cells.toList) (hv : v.cells = #[v]) : v = keyV Kt x := by
  rw [hv] at h
  rcases keyB_spec hk with ⟨k, rfl, _⟩ | ⟨rfl, _⟩
  · have e : [v] = [Value.int k x] := h
    exact (List.cons.inj e).1
  · have e : [v] = [Value.string x] := h
    exact (List.cons.inj e).1
theorem keyB_row {t : Nat} {Kt : Ty} (hk : keyB P t Kt = true) : rowB Kt = false ∧ width Kt = 1 := by
  rcases keyB_spec hk with ⟨k, rfl, _⟩ | ⟨rfl, _⟩ <;> exact ⟨rfl, rfl⟩
/-- A key's operand. -/
theorem key_op {t : Nat} {Kt : Ty} (hk : keyB P t Kt = true) {at_ : Option Loc} {u : AV Ω} {v : Value} (hu : RepAV C G w at_ u v) {x : El Kt} (hp : packAll Kt (keyL u) = some x) : v = keyV Kt x := by
  have fin : RepC w G.O Kt x [v] → v = keyV Kt x := by
    intro h
    rcases keyB_spec hk with ⟨k, rfl, _⟩ | ⟨rfl, _⟩
    · have e : [v] = [Value.int k x] := h
      exact (List.cons.inj e).1
    · have e : [v] = [Value.string x] := h
      exact (List.cons.inj e).1
  cases u with
  | one l =>
    cases l with
    | dat t' y =>
      have h1 : RepL C G w none (.dat t' y : Leaf Ω) v := hu
      exact fin (packAll_rep (C := C) hp (.cons h1 .nil))
    | _ => rcases keyB_spec hk with ⟨k, rfl, _⟩ | ⟨rfl, _⟩ <;> (unfold packAll at hp; simp [keyL, pack] at hp)
  | agg ls => rcases keyB_spec hk with ⟨k, rfl, _⟩ | ⟨rfl, _⟩ <;> (unfold packAll at hp; simp [keyL, pack] at hp)
  | tup ps => rcases keyB_spec hk with ⟨k, rfl, _⟩ | ⟨rfl, _⟩ <;> (unfold packAll at hp; simp [keyL, pack] at hp)
theorem unpackV_rep {t : Ty} {x : El t} {v : Value} (h : RepV w G.O t x v) : RepAV C G w none (avOf (rowB t) (unpack t x)) v ∧ noOwn (avOf (rowB t) (unpack t x) : AV Ω) := by
  unfold RepV Val at h
  cases hr : rowB t with
  | true =>
    rw [hr] at h
    obtain ⟨cs, rfl, h⟩ := h
    exact ⟨avOf_rep (unpack_rep h) (by simp), trivial⟩
  | false =>
    rw [hr] at h
    exact ⟨avOf_rep (unpack_rep h) rfl, noOwn_avOf (C := C) (unpack_rep h)⟩
theorem RepV_zero {ty : Ty} {z : Value} (hz : z.cells.toList = zeroCells ty) (ha : aggB z = rowB ty) {O : Nat → Prop} : RepV w O ty (zeroEl ty) z := by
  unfold RepV Val
  cases hr : rowB ty with
  | true =>
    rw [hr] at ha
    cases z <;> simp [aggB] at ha
    rename_i cs
    exact ⟨cs, rfl, by have : cs.toList = zeroCells ty := hz
                       rw [this]; exact RepC_zero ty⟩
  | false =>
    rw [hr] at ha
    have hc : z.cells.toList = [z] := by cases z <;> first | rfl | simp [aggB] at ha
    rw [hc] at hz
    show RepC w O ty (zeroEl ty) [z]
    rw [hz]
    exact RepC_zero ty
theorem lookOut_rep {ok : Bool} {V : Ty} {r : Option (El V)} {v : Value} (h : RepV w G.O V (r.getD (zeroEl V)) v) : RepAV C G w none (lookOut ok V r) (if ok then .tuple #[v, .bool r.isSome] else v) ∧ noOwn (lookOut ok V r : AV Ω) := by
  cases ok with
  | false => exact unpackV_rep h
  | true =>
    refine ⟨⟨#[v, .bool r.isSome], rfl, .cons ?_ (.cons ?_ .nil)⟩, trivial⟩
    · have := (unpackV_rep (C := C) h).1
      cases hq : avOf (rowB V) (unpack V (r.getD (zeroEl V))) with
      | one l => rw [hq] at this; exact this
      | agg ls => rw [hq] at this; exact this
      | tup ps =>
        exfalso
        unfold avOf at hq
        split at hq
        · cases hq
        · split at hq <;> cases hq
    · exact (rfl : [Value.bool r.isSome] = [Value.bool r.isSome])
/-- A map that is looked into: its entries stand for data. -/
def MapData (w : World) (O : Nat → Prop) (k v : Ty) (m : List (El k × El v)) (u : Value) : Prop :=
  (u = .map none ∧ m = []) ∨ ∃ b es clock, u = .map (some b) ∧ w.heap[b]? = some (.map es clock) ∧ es.size = m.length ∧
    ∀ j (h : j < m.length), ∃ en, es[j]? = some en ∧ RepV w O k m[j].1 en.key ∧ RepV w O v m[j].2 en.val
theorem runs_borrowMap (hr : Rep C G N used st a w) {o : Operand} {v : AV Ω} {x : Value} (hv : RepAV C G w (opLoc o) v x)
    {f : AV Ω → Prg Ω} {acc rs : List Loc} {ws : List (Loc × AV Ω)} (h : (borrow v f).Runs st acc rs ws) :
    ∃ u acc', (f u).Runs st acc' rs ws ∧ (∀ k v m, u = .one (.dat (.mp k v) m) → MapData w G.O k v m x) ∧ (u = .one .nilM → x = .map none) := by
  cases v with
  | agg ls => exact ⟨_, _, h, (fun _ _ _ e => by cases e), (fun e => by cases e)⟩
  | tup ps => exact ⟨_, _, h, (fun _ _ _ e => by cases e), (fun e => by cases e)⟩
  | one lf =>
    cases lf with
    | ali l id =>
      have h' : Prg.Runs st (match st.get l with
        | .one (.arr id' e xs) => (match idB id id' with | true => f (.one (.dat (.sl e) xs)) | false => .fail)
        | .one (.omp id' a b m) => (match idB id id' with | true => f (.one (.dat (.mp a b) m)) | false => .fail)
        | _ => .fail) (l :: acc) rs ws := h
      split at h'
      · split at h'
        · exact ⟨_, _, h', (fun _ _ _ e => by cases e), (fun e => by cases e)⟩
        · exact h'.elim
      · rename_i id' k v m hl
        split at h'
        · rename_i hid'
          obtain ⟨⟨bs, hΓ⟩, -⟩ := hv
          obtain ⟨b, es, clock, e, _, hh, hs, _, hx, _⟩ := ali_omp hr hΓ hl hid'
          refine ⟨_, _, h', fun k' v' m' e' => ?_, fun e => by cases e⟩
          cases e'
          exact .inr ⟨b, es, clock, e, hh, hs, hx⟩
        · exact h'.elim
      · exact h'.elim
    | avw l id sz lo hi =>
      have h' : Prg.Runs st (match st.get l with
        | .one (.arr id' e xs) => (match and (idB id id') (Nat.beq sz (width e)) with | true => .bind (cut xs lo hi) fun ys => f (.one (.dat (.sl e) ys)) | false => .fail)
        | _ => .fail) (l :: acc) rs ws := h
      split at h'
      · split at h'
        · obtain ⟨ys, hc, h'⟩ := h'
          exact ⟨_, _, h', (fun _ _ _ e => by cases e), (fun e => by cases e)⟩
        · exact h'.elim
      · exact h'.elim
    | arr id e xs => exact ⟨_, _, h, (fun _ _ _ e => by cases e), (fun e => by cases e)⟩
    | omp id k v m =>
      obtain ⟨l2, bs, e1, hΓ, ha⟩ := hv
      obtain ⟨b, es, clock, e, _, hh, hs, _, hx, _⟩ := ha
      refine ⟨_, _, h, fun k' v' m' e' => ?_, fun e => by cases e⟩
      cases e'
      exact .inr ⟨b, es, clock, e, hh, hs, hx⟩
    | dat t y =>
      refine ⟨_, _, h, fun k' v' m' e' => ?_, fun e => by cases e⟩
      cases e'
      obtain ⟨r, e, hv⟩ := hv
      have e := (List.cons.inj e).1
      rcases hv with ⟨rfl, rfl⟩ | ⟨b, es, clock, rfl, _, hh, hs, hx⟩
      · exact .inl ⟨e, rfl⟩
      · exact .inr ⟨b, es, clock, e, hh, hs, hx⟩
    | nilM => exact ⟨_, _, h, (fun _ _ _ e => by cases e), (fun _ => hv)⟩
    | _ => exact ⟨_, _, h, (fun _ _ _ e => by cases e), (fun e => by cases e)⟩
theorem run_lookup {t k v : Nat} {Kt Vt : Ty} (hu : P.underlying t = some (.map k v)) (hk : keyB P k Kt = true) (hv : zeroB P v Vt = true) {O : Nat → Prop} {m : List (El Kt × El Vt)} {u : Value} (hm : MapData w O Kt Vt m u) (x : El Kt) (ok : Bool) :
    ∃ r, (Instr.lookup t u (keyV Kt x) ok).run P w = .ok (if ok then .tuple #[r, .bool (look m x).isSome] else r) w ∧ RepV w O Vt ((look m x).getD (zeroEl Vt)) r := by
  obtain ⟨j, z, hj, _, _, hz, hzc, hza⟩ := zeroB_spec hv
  have hz' := RepV_zero (w := w) (O := O) hzc hza
  rcases hm with ⟨rfl, rfl⟩ | ⟨b, es, clock, rfl, hh, hs, hx⟩
  · refine ⟨z, ?_, hz'⟩
    have hc := run_checkKey (w := w) hk x true
    have hf : (Instr.findKey k (keyV Kt x) []).run P w = .ok none w := by
      obtain ⟨d, hd, _⟩ := keyD hk
      simp [Instr.findKey, run_underlying hd, Instr.findNow]
    cases ok <;> simp [Instr.lookup, run_underlying hu, hc, hf, zeroValue, typeInfo, hj, hz, look]
  · have hc := run_checkKey (w := w) hk x es.isEmpty
    have hf := (run_findKey (w := w) hk (O := O) (x := x) hs hx).1
    split at hf
    · rename_i hn
      refine ⟨z, ?_, by rw [hn]; exact hz'⟩
      cases ok <;> simp [Instr.lookup, run_underlying hu, run_getObj hh, hc, hf, zeroValue, typeInfo, hj, hz, hn]
    · rename_i y hn
      obtain ⟨r, hf, hr⟩ := hf
      refine ⟨r, ?_, by rw [hn]; exact hr⟩
      cases ok <;> simp [Instr.lookup, run_underlying hu, run_getObj hh, hc, hf, hn]
theorem ok_lookup (hT : TabOk P T) {t : Nat} {x ix : Operand} {ok : Bool} (hd : ∀ d, dst = some d → d < N) : OpOk P C N rc i ⟨dst, .lookup t x ix ok, ty, pos, after, guard⟩
    (Prg.opt (T.get t) fun ti => (match ti.kind, ti.ty with
      | .mp _ _, .mp K V => opG x fun vx => opG ix fun vk => Prg.opt (packAll K (keyL vk)) fun kk => borrow vx fun u => (match u with
        | .one .nilM => putP ⟨dst, .lookup t x ix ok, ty, pos, after, guard⟩ (lookOut ok V none)
        | .one (.dat (.mp K' V') mm) => Prg.opt (cast? (.mp K' V') (.mp K V) mm) fun mm' => putP ⟨dst, .lookup t x ix ok, ty, pos, after, guard⟩ (lookOut ok V (look mm' kk))
        | _ => .fail)
      | _, _ => .fail)) := by
  intro G used st a w acc rs ws hr hf h K Q hK
  obtain ⟨ti, hti, h⟩ := runs_opt h
  split at h
  · rename_i k0 v0 Kt Vt hk hty
    obtain ⟨hu, hkv⟩ := hT.mp hti hk
    obtain ⟨hkb, hvb⟩ := hkv _ _ hty
    obtain ⟨vx, acc1, h, hvx, -⟩ := runs_opG hr h
    obtain ⟨vk, acc2, h, hvk, -⟩ := runs_opG hr h
    obtain ⟨kk, hkk, h⟩ := runs_opt h
    have ek := key_op hkb hvk hkk
    obtain ⟨u, acc3, h, h1, h2⟩ := runs_borrowMap hr hvx h
    have fin : ∀ {m : List (El Kt × El Vt)} {acc : List Loc}, MapData w G.O Kt Vt m (a.eval x) → (putP ⟨dst, .lookup t x ix ok, ty, pos, after, guard⟩ (lookOut ok Vt (look m kk))).Runs st acc rs ws → (⟨dst, .lookup t x ix ok, ty, pos, after, guard⟩ : Oper).wp P a w K Q := by
      intro m acc hm h
      obtain ⟨r, hrun, hrep⟩ := run_lookup hu hkb hvb hm kk ok
      obtain ⟨hrep2, hno⟩ := lookOut_rep (C := C) (ok := ok) hrep
      exact fin_any hd hr hK h hno (by simp only [execOp, ek]; simp [hrun]) hrep2
    split at h
    · exact fin (m := []) (.inl ⟨h2 rfl, rfl⟩) h
    · obtain ⟨mm', hc, h⟩ := runs_opt h
      obtain ⟨e, rfl⟩ := cast_eq hc
      cases e
      exact fin (h1 _ _ _ rfl) h
    · exact h.elim
  · exact h.elim
end
end Go.Proofs.Ytbgefphoochgcaa.FE
/- FE, part 13: structs are built. -/
namespace Go.Proofs.Ytbgefphoochgcaa.FE
open Go
set_option linter.unusedVariables false
set_option linter.unusedSimpArgs false
section
variable {Ω : Type} {C : CloRep Ω} {P : Program} {T : Tab} {N : Nat}
variable {rc i : Nat} {dst : Option Nat} {ty : Nat} {pos : String} {after : Array Edge} {guard : Option (Nat × Bool)}
variable {G : Ghost} {used : Id → Prop} {st ws : S Ω} {a : Act} {w : World} {acc rs : List Loc} {o : Oper} {K : Act → World → Prop} {Q : Exit → Act → World → Prop}

theorem foldl_set (off : Nat) : ∀ (vs : List Value) (k : Nat) (cells : Array Value) (i : Nat),
    ((vs.zipIdx k).foldl (fun (cs : Array Value) (p : Value × Nat) => cs.setIfInBounds (off + p.2) p.1) cells)[i]? = if off + k ≤ i ∧ i < off + k + vs.length ∧ i < cells.size then vs[i - off - k]? else cells[i]?
  | [], k, cells, i => by simp; omega
  | v :: vs, k, cells, i => by
    simp only [List.zipIdx_cons, List.foldl_cons]
    rw [foldl_set off vs (k + 1) _ i]
    simp only [Array.size_setIfInBounds, List.length_cons]
    by_cases h1 : i = off + k
    · subst h1
      by_cases h2 : off + k < cells.size
      · simp [h2, Array.getElem?_setIfInBounds]
        intro h; omega
      · simp [h2, Array.getElem?_setIfInBounds]
    · by_cases h2 : off + (k + 1) ≤ i ∧ i < off + (k + 1) + vs.length ∧ i < cells.size
      · rw [if_pos h2, if_pos (by omega)]
        rw [show i - off - k = (i - off - (k + 1)) + 1 by omega]
        simp
      · rw [if_neg h2, if_neg (by omega), Array.getElem?_setIfInBounds_ne (by omega)]
theorem splice_eq {cells : Array Value} {v : Array Value} {off : Nat} (h : off + v.size ≤ cells.size) :
    v.zipIdx.foldl (fun (cs : Array Value) (p : Value × Nat) => cs.setIfInBounds (off + p.2) p.1) cells = (cells.toList.take off ++ v.toList ++ cells.toList.drop (off + v.size)).toArray := by
  apply Array.ext_getElem?
  intro i
  rw [← Array.foldl_toList, Array.toList_zipIdx, foldl_set off v.toList 0 cells i]
  simp only [List.getElem?_toArray, Nat.add_zero, Array.length_toList, Nat.sub_zero]
  have hl : (cells.toList.take off).length = off := by simp; omega
  rw [List.append_assoc, List.getElem?_append, hl]
  by_cases h1 : i < off
  · rw [if_neg (by omega), if_pos h1, List.getElem?_take, if_pos h1]; simp
  · rw [if_neg h1, List.getElem?_append]
    simp only [Array.length_toList]
    by_cases h2 : i - off < v.size
    · rw [if_pos (by omega), if_pos h2]
    · rw [if_neg (by omega), if_neg h2, List.getElem?_drop]
      rw [show off + v.size + (i - off - v.size) = i by omega]
      simp
def opsV (a : Act) (ps : List (Nat × Operand)) : List (Nat × Value) := ps.map fun p => (p.1, a.eval p.2)
theorem all2_length' {ls : List (Leaf Ω)} {l : List Value} (h : All2 (RepL C G w none) ls l) : ls.length = l.length := h.length
theorem buildP_runs {fs : List (Nat × Nat)} {place : Nat → Option (Nat × Nat)} (hp : ∀ (j : Nat) (p : Nat × Nat) (fi : TI), fs[j]? = some p → T.get p.2 = some fi → place j = some (p.1, fi.size)) :
    ∀ (ps : List (Nat × Operand)) {G : Ghost} {st : S Ω} {ls : List (Leaf Ω)} {l : List Value} {f : List (Leaf Ω) → Prg Ω} {acc : List Loc} {ws : List (Loc × AV Ω)}, Rep C G N used st a w → All2 (RepL C G w none) ls l → (buildP T fs ps ls f).Runs st acc rs ws →
      ∃ ls' ws' ws2 acc' G1 l', ws = ws2 ++ ws' ∧ (f ls').Runs (ws' ++ st) acc' rs ws2 ∧ Moves G w G1 ∧ Rep C G1 N used (ws' ++ st) a w ∧ All2 (RepL C G1 w none) ls' l' ∧
        Instr.fill place l.toArray (opsV a ps) = some l'.toArray := by
  intro ps
  induction ps with
  | nil => intro G st ls l f acc ws hr ha h; exact ⟨ls, [], ws, acc, G, l, by simp, h, Step.refl' hr _, hr, ha, rfl⟩
  | cons q ps ih =>
    obtain ⟨j, x⟩ := q
    intro G st ls l f acc ws hr ha h
    obtain ⟨p, hpj, h⟩ := runs_opt h
    obtain ⟨fi, hfi, h⟩ := runs_opt h
    obtain ⟨v, acc1, h, hv, hs⟩ := runs_opG hr h
    obtain ⟨u, ws', ws2, acc2, G1, rfl, h, hm, _, _, hr1, hu, hn⟩ := runs_freeze hr hv hs h
    split at h
    · rename_i hfit
      rw [Bool.and_eq_true] at hfit
      obtain ⟨hsz, hlen⟩ := fitsV_iff hfit.1
      have hle := Nat.le_of_ble_eq_true hfit.2
      have hlv := leaves_rep hu hsz
      have ha1 : All2 (RepL C G1 w none) ls l := ha.mono fun _ _ hh => RepL.step hm (fun _ e => by cases e) hh
      have hll := ha1.length
      have hlvl := hlv.length
      have ha2 := ((ha1.take p.1).append hlv).append (ha1.drop (p.1 + fi.size))
      obtain ⟨ls', ws3, ws4, acc3, G2, l', rfl, h, hm2, hr2, ha3, hf⟩ := ih hr1 ha2 h
      refine ⟨ls', ws3 ++ ws', ws4, acc3, G2, l', by simp, by rw [List.append_assoc]; exact h, hm.moves hm2, by rw [List.append_assoc]; exact hr2, ha3, ?_⟩
      have hc : (a.eval x).cells.size = fi.size := by
        have : (a.eval x).cells.toList.length = (a.eval x).cells.size := Array.length_toList
        omega
      show Instr.fill place l.toArray ((j, a.eval x) :: opsV a ps) = _
      simp only [Instr.fill, hp j p fi hpj hfi]
      rw [if_neg (by simp [hc]; omega)]
      have := splice_eq (cells := l.toArray) (v := (a.eval x).cells) (off := p.1) (by simp [hc]; omega)
      simp only [hc] at this
      rw [← hf]
      congr 1
    · exact h.elim
theorem run_places' {P : Program} : ∀ {gs : List Field} {fs : List (Nat × Nat)}, fieldsB P gs fs = true → ∃ places, gs.mapM (fun f => (P.info? f.type).map fun i => (f.offset, i.size)) = some places ∧
    ∀ (j : Nat) (p : Nat × Nat), fs[j]? = some p → ∀ i, P.info? p.2 = some i → places[j]? = some (p.1, i.size)
  | [], [], _ => ⟨[], rfl, fun j p h => by simp at h⟩
  | g :: gs, q :: fs, h => by
    simp only [fieldsB, Bool.and_eq_true] at h
    obtain ⟨h1, h2, h3, h4⟩ := h
    obtain ⟨places, hp, hx⟩ := run_places' h4
    obtain ⟨jf, hj, _⟩ := cellsOf_info (Nat.blt_eq.mp h3)
    refine ⟨(g.offset, jf.size) :: places, by simp [List.mapM_cons, hj, hp], fun j p hpj i hi => ?_⟩
    cases j with
    | zero =>
      obtain rfl : q = p := by simpa using hpj
      have e1 := Nat.eq_of_beq_eq_true h1
      have e2 := Nat.eq_of_beq_eq_true h2
      rw [← e2, hj] at hi
      cases hi
      simp [e1]
    | succ j => simpa using hx j p (by simpa using hpj) i hi
  | [], _ :: _, h => by cases h
  | _ :: _, [], h => by cases h
theorem ok_build (hT : TabOk P T) {t : Nat} {parts : Array (Nat × Operand)} (hd : ∀ d, dst = some d → d < N) : OpOk P C N rc i ⟨dst, .build t parts, ty, pos, after, guard⟩
    (Prg.opt (T.get t) fun ti => (match ti.kind, ti.ty with
      | .st fs, .st _ => buildP T fs parts.toList (zeroLeaf ti.ty) fun ls => (match Nat.beq ls.length ti.size with | true => putP ⟨dst, .build t parts, ty, pos, after, guard⟩ (.agg ls) | false => .fail)
      | _, _ => .fail)) := by
  intro G used st a w acc rs ws hr hf h K Q hK
  obtain ⟨ti, hti, h⟩ := runs_opt h
  split at h
  · rename_i fs r hk hty
    obtain ⟨gs, hu, hfb⟩ := hT.st hti hk
    obtain ⟨places, hpl, hpx⟩ := run_places' hfb
    have hz := zeroLeaf_rep (C := C) (G := G) (w := w) ti.ty
    obtain ⟨ls', ws', ws2, acc', G1, l', rfl, h, hm, hr1, ha, hfill⟩ := buildP_runs (place := fun j => places[j]?) (fun j p fi hj hfi => by
      obtain ⟨k, hk, hks⟩ := hT.info hfi
      rw [hpx j p hj k hk, hks]) parts.toList hr hz h
    split at h
    · rename_i hlen
      have hlen := Nat.eq_of_beq_eq_true hlen
      · obtain ⟨hz1, _⟩ := hT.zero hti (by rw [hty]; simp)
        obtain ⟨k, z, hki, hks, _, hkz, hzc, hza⟩ := zeroB_spec hz1
        have hb : P.built t (parts.map fun (p : Nat × Operand) => (p.1, a.eval p.2)).toList = some l'.toArray := by
          have e1 : z.cells = (zeroCells ti.ty).toArray := by rw [← hzc]
          have e2 : (parts.map fun (p : Nat × Operand) => (p.1, a.eval p.2)).toList = opsV a parts.toList := by simp [opsV]
          rw [e2]
          simp only [Program.built, hki, hu, hkz, hpl, e1]
          rw [← hfill]
          simp
        refine fin_any (u := .agg ls') hd hr1 (hK_step hm.fr hK) h trivial (v := .agg l'.toArray) ?_ ⟨l'.toArray, rfl, by simpa using ha⟩
        have := run_build w t (parts.map fun (p : Nat × Operand) => (p.1, a.eval p.2)) _ hb
        simp [execOp, this]
    · exact h.elim
  · exact h.elim
end
end Go.Proofs.Ytbgefphoochgcaa.FE
/- FE, part 14: operations that make and write variables. -/
namespace Go.Proofs.Ytbgefphoochgcaa.FE
open Go
set_option linter.unusedVariables false
set_option linter.unusedSimpArgs false
section
variable {Ω : Type} {C : CloRep Ω} {P : Program} {T : Tab} {N : Nat}
variable {rc i : Nat} {dst : Option Nat} {ty : Nat} {pos : String} {after : Array Edge} {guard : Option (Nat × Bool)}
variable {G : Ghost} {used used' : Id → Prop} {st ws : S Ω} {a : Act} {w w' : World} {acc rs : List Loc} {o : Oper} {K : Act → World → Prop} {Q : Exit → Act → World → Prop}

/-! ### a new block -/
structure Pushed (w w' : World) (o : Obj) : Prop where
  heap : w'.heap = w.heap.push o
  os : w'.os = w.os
  tape : w'.tape = w.tape
  output : w'.output = w.output
theorem Pushed.alloc (w : World) (o : Obj) : Pushed w (w.alloc o) o := ⟨rfl, rfl, rfl, rfl⟩
theorem Pushed.drewAlloc (w : World) (o : Obj) : Pushed w (w.drew.alloc o) o := ⟨rfl, rfl, rfl, rfl⟩
theorem Pushed.old {o : Obj} (h : Pushed w w' o) {b : Nat} (hb : b < w.heap.size) : w'.heap[b]? = w.heap[b]? := by
  rw [h.heap, Array.getElem?_push, if_neg (by omega)]
theorem Pushed.new {o : Obj} (h : Pushed w w' o) : w'.heap[w.heap.size]? = some o := by rw [h.heap, Array.getElem?_push, if_pos rfl]
theorem Pushed.size {o : Obj} (h : Pushed w w' o) : w'.heap.size = w.heap.size + 1 := by rw [h.heap, Array.size_push]
theorem Pushed.cell {o : Obj} (h : Pushed w w' o) {b j : Nat} (hb : b < w.heap.size) : w'.cell? ⟨b, j, none⟩ = w.cell? ⟨b, j, none⟩ := by
  simp [World.cell?, h.old hb]
/-- A new block, with its owner; and a new box. -/
def Ghost.new (G : Ghost) (b : Nat) (o : Option Own) : Ghost := { G with ρ := fun x => match Nat.beq x b with | true => o | false => G.ρ x }
def Ghost.newBox (G : Ghost) (id : Id) (b n : Nat) : Ghost := { G with β := fun x => match idB id x with | true => some (b, n) | false => G.β x, ρ := fun x => match Nat.beq x b with | true => some (.bx id) | false => G.ρ x }
theorem beq_self (b : Nat) : Nat.beq b b = true := Nat.beq_refl b
theorem beq_ne {a b : Nat} (h : a ≠ b) : Nat.beq a b = false := by
  cases e : Nat.beq a b
  · rfl
  · exact absurd (Nat.eq_of_beq_eq_true e) h
theorem new_at {b : Nat} {o : Option Own} : (G.new b o).ρ b = o := by simp [Ghost.new, beq_self]
theorem new_ne {b x : Nat} {o : Option Own} (h : x ≠ b) : (G.new b o).ρ x = G.ρ x := by simp [Ghost.new, beq_ne h]
theorem newBox_at {id : Id} {b n : Nat} : (G.newBox id b n).ρ b = some (.bx id) := by simp [Ghost.newBox, beq_self]
theorem newBox_ne {id : Id} {b n x : Nat} (h : x ≠ b) : (G.newBox id b n).ρ x = G.ρ x := by simp [Ghost.newBox, beq_ne h]
theorem newBox_β {id : Id} {b n : Nat} : (G.newBox id b n).β id = some (b, n) := by simp [Ghost.newBox, idB_iff.2 rfl]
theorem newBox_βne {id id' : Id} {b n : Nat} (h : id ≠ id') : (G.newBox id b n).β id' = G.β id' := by
  have : idB id id' = false := by
    cases e : idB id id'
    · rfl
    · exact absurd (idB_iff.1 e) h
  simp [Ghost.newBox, this]
theorem own_lt (hr : Rep C G N used st a w) {b : Nat} {o : Own} (h : G.ρ b = some o) : b < w.heap.size := hr.lt b (show G.ρ b ≠ none by rw [h]; simp)
theorem new_step (hr : Rep C G N used st a w) {ob : Obj} (hp : Pushed w w' ob) (o : Option Own) (L : Loc → Prop) : Step G w (G.new w.heap.size o) w' L where
  Γ _ _ h := h
  β _ _ h := h
  os := hp.os
  tape := hp.tape
  output := hp.output
  size := by rw [hp.size]; omega
  free b hb ho := ⟨hp.old hb, show ¬ (G.new w.heap.size o).ρ b ≠ none by rw [new_ne (by omega)]; exact ho⟩
  own b l h _ := ⟨hp.old (own_lt hr h), by rw [new_ne (by have := own_lt hr h; omega)]; exact h⟩
  ext b h := ⟨hp.old (own_lt hr h), by rw [new_ne (by have := own_lt hr h; omega)]; exact h⟩
  om b h _ := ⟨hp.old (own_lt hr h), by rw [new_ne (by have := own_lt hr h; omega)]; exact h⟩
  bx b n id h := by
    obtain ⟨h1, c, el, h2, h3⟩ := hr.box id b n h
    have hb := own_lt hr h1
    exact ⟨by rw [new_ne (by omega)]; exact h1, ⟨c, el, (hp.old hb).trans h2, h3⟩, fun j _ => hp.cell hb⟩
  lt b h := by
    rw [hp.size]
    by_cases e : b = w.heap.size
    · omega
    · have := hr.lt b (show G.ρ b ≠ none by have h' : (G.new w.heap.size o).ρ b ≠ none := h; rw [new_ne e] at h'; exact h')
      omega
  omr b hb h _ := by rw [new_ne (by omega)] at h; exact h
theorem newBox_step (hr : Rep C G N used st a w) {ob : Obj} (hp : Pushed w w' ob) {id : Id} (hid : ¬ used id) (n : Nat) (L : Loc → Prop) : Step G w (G.newBox id w.heap.size n) w' L where
  Γ _ _ h := h
  β id' b h := by
    rw [newBox_βne, h]
    intro e; subst e
    exact hid (hr.usedβ _ (by rw [h]; simp))
  os := hp.os
  tape := hp.tape
  output := hp.output
  size := by rw [hp.size]; omega
  free b hb ho := ⟨hp.old hb, show ¬ (G.newBox id w.heap.size n).ρ b ≠ none by rw [newBox_ne (by omega)]; exact ho⟩
  own b l h _ := ⟨hp.old (own_lt hr h), by rw [newBox_ne (by have := own_lt hr h; omega)]; exact h⟩
  ext b h := ⟨hp.old (own_lt hr h), by rw [newBox_ne (by have := own_lt hr h; omega)]; exact h⟩
  om b h _ := ⟨hp.old (own_lt hr h), by rw [newBox_ne (by have := own_lt hr h; omega)]; exact h⟩
  bx b n id h := by
    obtain ⟨h1, c, el, h2, h3⟩ := hr.box id b n h
    have hb := own_lt hr h1
    exact ⟨by rw [newBox_ne (by omega)]; exact h1, ⟨c, el, (hp.old hb).trans h2, h3⟩, fun j _ => hp.cell hb⟩
  lt b h := by
    rw [hp.size]
    by_cases e : b = w.heap.size
    · omega
    · have := hr.lt b (show G.ρ b ≠ none by have h' : (G.newBox id w.heap.size n).ρ b ≠ none := h; rw [newBox_ne e] at h'; exact h')
      omega
  omr b hb h _ := by rw [newBox_ne (by omega)] at h; exact h
theorem Rep.pushed (hr : Rep C G N used st a w) {ob : Obj} (hp : Pushed w w' ob) (o : Option Own) : Rep C (G.new w.heap.size o) N used st a w' :=
  Rep.step (ws := []) hr (new_step hr hp o _) (fun l hl => by simp [inL] at hl) (fun _ _ => rfl) hr.size hr.defers (fun _ _ _ h => .inl h) hr.usedΓ hr.usedβ

/-! ### the leaves of a box -/
theorem get_boxW {id : Id} : ∀ (ls : List (Leaf Ω)) (k j : Nat), S.get (boxW id k ls) (.box id j) = if k ≤ j then (match ls[j - k]? with | some x => .one x | none => .one .dead) else .one .dead
  | [], k, j => by simp [boxW, S.get]
  | l :: ls, k, j => by
    simp only [boxW, S.get]
    by_cases e : k = j
    · subst e; simp [locB_self]
    · rw [locB_ne (by intro h; cases h; exact e rfl)]
      simp only []
      rw [get_boxW ls (k + 1) j]
      by_cases h : k ≤ j
      · rw [if_pos h, if_pos (by omega), show j - k = (j - (k + 1)) + 1 by omega]
        simp
      · rw [if_neg h, if_neg (by omega)]
theorem inL_boxW {id : Id} {l : Loc} : ∀ {ls : List (Leaf Ω)} {k : Nat}, inL l ((boxW id k ls).map (·.1)) = true → ∃ j, l = .box id (k + j) ∧ j < ls.length
  | [], k, h => by simp [boxW, inL] at h
  | x :: ls, k, h => by
    simp only [boxW, List.map_cons, inL] at h
    split at h
    · rename_i e
      exact ⟨0, (locB_iff.1 e).symm, by simp⟩
    · obtain ⟨j, e, hj⟩ := inL_boxW h
      exact ⟨j + 1, by rw [e]; congr 1; omega, by simpa using hj⟩
theorem inL_boxW' {id : Id} : ∀ {ls : List (Leaf Ω)} {k j : Nat}, j < ls.length → inL (.box id (k + j)) ((boxW id k ls).map (·.1)) = true
  | [], k, j, h => by simp at h
  | x :: ls, k, j, h => by
    simp only [boxW, List.map_cons, inL]
    cases j with
    | zero => simp [locB_self]
    | succ j =>
      rw [locB_ne (by intro h; injection h with h1 h2; omega)]
      have := inL_boxW' (id := id) (ls := ls) (k := k + 1) (j := j) (by simpa using h)
      rw [show k + (j + 1) = k + 1 + j by omega]
      exact this
/-- Leaves and cells, each fit to stand at its place of a box. -/
def BoxFit (C : CloRep Ω) (G : Ghost) (w : World) (id : Id) (off : Nat) (ls : List (Leaf Ω)) (vs : List Value) : Prop :=
  ls.length = vs.length ∧ ∀ (j : Nat) x v, ls[j]? = some x → vs[j]? = some v → RepL C G w (some (.box id (off + j))) x v
theorem RepL.any {at_ at' : Option Loc} {l : Leaf Ω} {v : Value} (h : RepL C G w at_ l v) (hn : noOwn (.one l)) : RepL C G w at' l v := RepAV.any (u := .one l) hn h
theorem BoxFit.of_none {id : Id} {off : Nat} {ls : List (Leaf Ω)} {vs : List Value} (h : All2 (RepL C G w none) ls vs) : BoxFit C G w id off ls vs := by
  refine ⟨h.length, fun j x v hx hv => ?_⟩
  obtain ⟨v', hv', hr⟩ := h.get hx
  rw [hv] at hv'
  cases hv'
  exact hr.any (noOwn_of (u := .one x) (C := C) (G := G) (w := w) hr)
/-- What was taken for a box's first place fits there. -/
theorem BoxFit.of_av {id : Id} {off : Nat} {u : AV Ω} {v : Value} (h : RepAV C G w (some (.box id off)) u v) (hs : sizedV u = true) : BoxFit C G w id off (leavesOf u) v.cells.toList ∧ ∀ x ∈ v.cells.toList, x.oneCell' = true := by
  cases u with
  | one l =>
    have h' : RepL C G w (some (.box id off)) l v := h
    have h1 := noAgg_leaf h' (live_ne hs)
    rw [cells_one h1]
    refine ⟨⟨rfl, fun j x u hx hu => ?_⟩, by simpa using h1⟩
    cases j with
    | zero =>
      obtain rfl : l = x := by simpa [leavesOf] using hx
      obtain rfl : v = u := by simpa using hu
      exact h'
    | succ j => simp [leavesOf] at hx
  | agg ls =>
    have h0 : RepAV C G w none (.agg ls) v := h
    exact ⟨.of_none (leaves_rep h0 hs), leaves_one h0 hs⟩
  | tup ps => cases hs
theorem Rep.pushBox (hr : Rep C G N used st a w) {id : Id} (hid : ¬ used id) (hu : ∀ x, used x → used' x) (hi : used' id) {d : Nat} (hd : d < N) {ls : List (Leaf Ω)} {cells : Array Value} {el : Nat}
    (hf : BoxFit C G w id 0 ls cells.toList) (hp : Pushed w w' (.cells cells el (0, 0))) :
    Fr G.ρ w (G.newBox id w.heap.size cells.size).ρ w' ∧
    Rep C (G.newBox id w.heap.size cells.size) N used' ((.tmp d, .one (.ref id 0 cells.size)) :: boxW id 0 ls ++ st) (a.put (some d) (.pointer (some ⟨w.heap.size, 0, none⟩))) w' := by
  have hd' : d < a.tmps.size := by rw [hr.size]; exact hd
  have hstep := newBox_step hr hp hid cells.size
  refine ⟨(hstep (fun _ => False)).fr, ?_⟩
  refine Rep.step (ws := (.tmp d, .one (.ref id 0 cells.size)) :: boxW id 0 ls) hr (hstep _) (fun l hl => ?_) (fun t ht => ?_) (put_size.trans hr.size) (put_defers.trans hr.defers) (fun id' b n h => ?_) (fun x h => hu x (hr.usedΓ x h)) (fun x h => ?_)
  · by_cases e : l = .tmp d
    · subst e
      show RepAV C _ w' _ (S.get ((Loc.tmp d, _) :: boxW id 0 ls) (.tmp d)) ((a.put (some d) _).tmps.getD d undef)
      rw [getD_put hd']
      have : S.get ((Loc.tmp d, AV.one (Leaf.ref (Ω := Ω) id 0 cells.size)) :: boxW id 0 ls) (.tmp d) = .one (.ref id 0 cells.size) := by simp [S.get, locB_self]
      rw [this]
      exact ⟨_, newBox_β, rfl⟩
    · have hl' : inL l ((boxW id 0 ls).map (·.1)) = true := by
        simp only [List.map_cons, inL] at hl
        rwa [locB_ne (fun h => e h.symm)] at hl
      obtain ⟨j, rfl, hj⟩ := inL_boxW hl'
      have hlen := hf.1
      have hg : S.get ((Loc.tmp d, AV.one (Leaf.ref (Ω := Ω) id 0 cells.size)) :: boxW id 0 ls) (.box id (0 + j)) = .one ls[j] := by
        rw [S.get, locB_ne (by intro h; cases h)]
        simp only []
        rw [get_boxW]
        simp [hj]
      rw [hg]
      have hv : cells.toList[j]? = some (cells[j]'(by simpa [hlen] using hj)) := by
        rw [List.getElem?_eq_getElem (by omega)]; simp
      refine .inr ⟨w.heap.size, cells.size, _, newBox_β, ?_, ((hf.2 j _ _ (by simp [hj]) hv).step (hstep (fun _ => False)) (fun _ _ h => h))⟩
      simp [World.cell?, hp.new]
  · refine getD_put_ne fun e => ?_
    subst e
    simp [inL, locB_self] at ht
  · by_cases e : id = id'
    · subst e
      rw [newBox_β] at h
      cases h
      exact .inr ⟨newBox_at, cells, el, hp.new, rfl⟩
    · rw [newBox_βne e] at h
      exact .inl h
  · by_cases e : id = x
    · exact e ▸ hi
    · rw [newBox_βne e] at h
      exact hu x (hr.usedβ x h)
theorem hfresh {rc i : Nat} (hf : FreshAt used rc i) (s : Nat) : ¬ used (rc, i, s) := hf s
theorem ok_box (hT : TabOk P T) {t : Nat} {x : Operand} (hd : ∀ d, dst = some d → d < N) : OpOk P C N rc i ⟨dst, .box t x, ty, pos, after, guard⟩
    (Prg.opt (T.get t) fun ti => opG x fun v => takeV x (rc, i, 1) v fun u =>
      (match (generalizing := false) fitsV u ti.size, dst with
       | true, some d => .done ((.tmp d, .one (.ref (rc, i, 0) 0 ti.size)) :: boxW (rc, i, 0) 0 (leavesOf u))
       | _, _ => .fail)) := by
  intro G used st a w acc rs ws hr hf h K Q hK
  obtain ⟨ti, hti, h⟩ := runs_opt h
  obtain ⟨v, acc1, h, hv, hs⟩ := runs_opG hr h
  -- ids of this operation that are used by the take alone
  obtain ⟨u, ws', ws2, acc2, G1, rfl, h, hm, hβ, hr1, hu⟩ := runs_take hr hv hs (.box (rc, i, 0) 0) (hf 1) (used' := fun id => used id ∨ id = (rc, i, 1)) (fun _ h => .inl h) (.inr rfl) h
  rcases dst with _ | d
  · cases hfit : fitsV u ti.size <;> simp only [hfit] at h <;> exact h.elim
  cases hfit : fitsV u ti.size with
  | true =>
    simp only [hfit] at h
    obtain ⟨hsz, hlen⟩ := fitsV_iff hfit
    obtain ⟨rfl, -⟩ := h
    obtain ⟨hbf, h1⟩ := BoxFit.of_av hu hsz
    have hcs : (a.eval x).cells.size = ti.size := by
      have := hbf.1
      simp at this
      omega
    have hnid : ¬ (used (rc, i, 0) ∨ ((rc, i, 0) : Id) = (rc, i, 1)) := by
      rintro (h | h)
      · exact hf 0 h
      · cases h
    obtain ⟨hfr, hrep⟩ := hr1.pushBox hnid (used' := usedAt used rc i) (fun id h => by
      rcases h with h | rfl
      · exact .inl h
      · exact .inr ⟨1, rfl⟩) (.inr ⟨0, rfl⟩) (hd d rfl) (el := t) hbf (Pushed.alloc w (.cells (a.eval x).cells t))
    refine wp_value (v := .pointer (some ⟨w.heap.size, 0, none⟩)) (w' := w.alloc (.cells (a.eval x).cells t)) (by simp [execOp, Instr.box, newVar, newRow]) ?_
    refine hK_step hm.fr hK _ _ _ hfr ?_
    rw [← hcs]
    exact hrep
  | false => simp only [hfit] at h; exact h.elim
theorem ok_alloc (hT : TabOk P T) {t : Nat} (hd : ∀ d, dst = some d → d < N) : OpOk P C N rc i ⟨dst, .alloc t, ty, pos, after, guard⟩
    (Prg.opt (T.get t) fun ti =>
      (match (generalizing := false) and (Nat.beq (zeroLeaf (Ω := Ω) ti.ty).length ti.size) (Nat.blt 0 ti.size), dst with
       | true, some d => .done ((.tmp d, .one (.ref (rc, i, 0) 0 ti.size)) :: boxW (rc, i, 0) 0 (zeroLeaf ti.ty))
       | _, _ => .fail)) := by
  intro G used st a w acc rs ws hr hf h K Q hK
  obtain ⟨ti, hti, h⟩ := runs_opt h
  rcases dst with _ | d
  · cases hfit : and (Nat.beq (zeroLeaf (Ω := Ω) ti.ty).length ti.size) (Nat.blt 0 ti.size) <;> simp only [hfit] at h <;> exact h.elim
  cases hfit : and (Nat.beq (zeroLeaf (Ω := Ω) ti.ty).length ti.size) (Nat.blt 0 ti.size) with
  | true =>
    simp only [hfit] at h
    rw [Bool.and_eq_true] at hfit
    have hlen := Nat.eq_of_beq_eq_true hfit.1
    have hpos := Nat.blt_eq.mp hfit.2
    obtain ⟨rfl, -⟩ := h
    have hun : ti.ty ≠ .unit := by
      intro e
      rw [e] at hlen
      simp [zeroLeaf] at hlen
      omega
    obtain ⟨k, z, hki, hks, _, hkz, hzc, hza⟩ := zeroB_spec (hT.zero hti hun).1
    have hz := zeroLeaf_rep (C := C) (G := G) (w := w) ti.ty
    have hcs : z.cells.size = ti.size := by
      have := hz.length
      rw [← hzc] at this
      simp at this
      omega
    obtain ⟨hfr, hrep⟩ := hr.pushBox (hf 0) (used' := usedAt used rc i) (fun _ h => .inl h) (.inr ⟨0, rfl⟩) (hd d rfl) (el := t) (cells := z.cells) (BoxFit.of_none (by rw [hzc]; exact hz)) (Pushed.alloc w (.cells z.cells t))
    refine wp_value (v := .pointer (some ⟨w.heap.size, 0, none⟩)) (w' := w.alloc (.cells z.cells t)) (by simp [execOp, Instr.alloc, zeroValue, typeInfo, hki, hkz, newVar, newRow]) ?_
    rw [hcs] at hrep hfr
    exact hK _ _ _ hfr hrep
  | false => simp only [hfit] at h; exact h.elim
end
end Go.Proofs.Ytbgefphoochgcaa.FE
/- FE, part 15: stores. -/
namespace Go.Proofs.Ytbgefphoochgcaa.FE
open Go
set_option linter.unusedVariables false
set_option linter.unusedSimpArgs false
section
variable {Ω : Type} {C : CloRep Ω} {P : Program} {T : Tab} {N : Nat}
variable {rc i : Nat} {dst : Option Nat} {ty : Nat} {pos : String} {after : Array Edge} {guard : Option (Nat × Bool)}
variable {G : Ghost} {used used' : Id → Prop} {st ws : S Ω} {a : Act} {w w' : World} {acc rs : List Loc} {o : Oper} {K : Act → World → Prop} {Q : Exit → Act → World → Prop}

def spl (cur : Array Value) (k : Nat) (vs : List Value) : Array Value := (cur.toList.take k ++ vs ++ cur.toList.drop (k + vs.length)).toArray
theorem spl_size {cur : Array Value} {k : Nat} {vs : List Value} (h : k + vs.length ≤ cur.size) : (spl cur k vs).size = cur.size := by
  simp [spl]; omega
theorem spl_get {cur : Array Value} {k : Nat} {vs : List Value} (h : k + vs.length ≤ cur.size) (j : Nat) : (spl cur k vs)[j]? = if k ≤ j ∧ j < k + vs.length then vs[j - k]? else cur[j]? := by
  unfold spl
  simp only [List.getElem?_toArray]
  have hl : (cur.toList.take k).length = k := by simp; omega
  rw [List.append_assoc, List.getElem?_append, hl]
  by_cases h1 : j < k
  · rw [if_pos h1, if_neg (by omega), List.getElem?_take, if_pos h1]; simp
  · rw [if_neg h1, List.getElem?_append]
    by_cases h2 : j - k < vs.length
    · rw [if_pos h2, if_pos (by omega)]
    · rw [if_neg h2, if_neg (by omega), List.getElem?_drop, show k + vs.length + (j - k - vs.length) = j by omega]
      simp
theorem spl_nil {cur : Array Value} {k : Nat} : spl cur k [] = cur := by
  apply Array.ext_getElem?
  intro j
  by_cases h : k ≤ cur.size
  · rw [spl_get (by simpa using h), if_neg (by simp only [List.length_nil]; omega)]
  · simp only [spl, List.getElem?_toArray, List.append_nil, List.length_nil, Nat.add_zero]
    rw [List.take_append_drop]; simp
theorem setRow_same {b : Nat} {c : Array Value} {el : Nat} {fz : Nat × Nat} (h : w.heap[b]? = some (.cells c el fz)) : w.setRow b c = w := by
  have hlt : b < w.heap.size := (Array.getElem?_eq_some_iff.1 h).1
  have hv : w.heap[b] = .cells c el fz := (Array.getElem?_eq_some_iff.1 h).2
  unfold World.setRow
  cases w with
  | mk heap tape drawn os output =>
    congr 1
    apply Array.ext
    · simp
    · intro k h1 h2
      simp only [Array.getElem_modify]
      split
      · rename_i hk; subst hk; simp at hv; simp [hv]
      · rfl
theorem run_storeCells {b off el : Nat} : ∀ (vs : List Value) (i : Nat) (cur : Array Value) (w : World), w.heap[b]? = some (.cells cur el (0, 0)) → off + i + vs.length ≤ cur.size → (∀ v ∈ vs, v.oneCell' = true) →
    (storeCells ⟨b, off, none⟩ vs i).run P w = .ok () (w.setRow b (spl cur (off + i) vs))
  | [], i, cur, w, hg, hl, _ => by
    rw [spl_nil, setRow_same hg]; rfl
  | v :: rest, i, cur, w, hg, hl, h1 => by
    have hi : off + i < cur.size := by simp at hl; omega
    have hcell : w.cell? ⟨b, off + i, none⟩ = some cur[off + i] := by simp [World.cell?, hg, hi]
    have hfro : w.frozen? ⟨b, off + i, none⟩ = false := by simp [World.frozen?, hg]
    have hst : (store ((⟨b, off, none⟩ : Addr).add i) v).run P w = .ok () (w.setRow b (cur.setIfInBounds (off + i) v)) := by
      rw [add_none, run_store P w _ v _ (h1 v (by simp)), hcell]
      simp [hfro, setCell_eq_setRow w b (off + i) cur el (0, 0) v hg]
    have ih := run_storeCells (off := off) rest (i + 1) (cur.setIfInBounds (off + i) v) (w.setRow b (cur.setIfInBounds (off + i) v)) (setRow_heap w b cur _ el _ hg) (by simp at hl ⊢; omega) (fun x hx => h1 x (by simp [hx]))
    simp only [storeCells, Sem.run_bind, hst, Result.andThen_ok, ih, setRow_setRow]
    congr 2
    apply Array.ext_getElem?
    intro j
    have hl' : off + (i + 1) + rest.length ≤ (cur.setIfInBounds (off + i) v).size := by simp at hl ⊢; omega
    rw [spl_get (by simpa using hl'), spl_get hl]
    simp only [List.length_cons]
    by_cases hj : j = off + i
    · subst hj
      rw [if_neg (by omega), if_pos (by omega)]
      simp [hi]
    · by_cases h2 : off + (i + 1) ≤ j ∧ j < off + (i + 1) + rest.length
      · rw [if_pos h2, if_pos (by omega), show j - (off + i) = (j - (off + (i + 1))) + 1 by omega]
        simp
      · rw [if_neg h2, if_neg (by omega), Array.getElem?_setIfInBounds_ne (by omega)]
theorem run_storeVar (hT : TabOk P T) {t : Nat} {ti : TI} (hti : T.get t = some ti) {b off el : Nat} {cur : Array Value} (hg : w.heap[b]? = some (.cells cur el (0, 0))) {v : Value} (hsz : v.cells.size = ti.size) (hin : off + ti.size ≤ cur.size) (h1 : ∀ x ∈ v.cells.toList, x.oneCell' = true) :
    (storeVar t ⟨b, off, none⟩ v).run P w = .ok () (w.setRow b (spl cur off v.cells.toList)) := by
  obtain ⟨j, hj, hs⟩ := hT.info hti
  have h2 := run_storeCells (P := P) (off := off) v.cells.toList 0 cur w hg (by simp [hsz]; omega) h1
  simp [storeVar, sizeOf, typeInfo, hj, hs, hsz, h2]
theorem run_store_op {t : Nat} {x y : Operand} {b off : Nat} (e : a.eval x = .pointer (some ⟨b, off, none⟩)) (h : (storeVar t ⟨b, off, none⟩ (a.eval y)).run P w = .ok () w') :
    (execOp a.eval ⟨dst, .store t x y, ty, pos, after, guard⟩).run P w = .ok .skip w' := by
  simp [execOp, e, Instr.storeAt, Instr.sureAddr, h]
/-- One row changes; it is owned. -/
theorem setRow_step (hr : Rep C G N used st a w) {b : Nat} {ow : Own} (hρ : G.ρ b = some ow) {c cs : Array Value} {el : Nat} (hh : w.heap[b]? = some (.cells c el (0, 0))) (hsz : cs.size = c.size) {L : Loc → Prop}
    (h1 : ∀ l, ow = .at_ l → L l) (h2 : ∀ id, ow = .bx id → ∀ j, ¬ L (.box id j) → cs[j]? = c[j]?) (h3 : ow ≠ .ext) (h4 : ow ≠ .om) : Step G w G (w.setRow b cs) L where
  Γ _ _ h := h
  β _ _ h := h
  os := rfl
  tape := rfl
  output := rfl
  size := by simp
  free b' hb' ho := by
    refine ⟨setRow_other w b b' cs ?_, ho⟩
    intro e; subst e
    exact ho (show G.ρ b' ≠ none by rw [hρ]; simp)
  own b' l h hn := by
    refine ⟨setRow_other w b b' cs ?_, h⟩
    intro e; subst e
    rw [hρ] at h
    exact hn (h1 l (Option.some.inj h))
  ext b' h := by
    refine ⟨setRow_other w b b' cs ?_, h⟩
    intro e; subst e
    rw [hρ] at h
    exact h3 (Option.some.inj h)
  om b' h hn := by
    refine ⟨setRow_other w b b' cs ?_, h⟩
    intro e; subst e
    rw [hρ] at h
    exact h4 (Option.some.inj h)
  bx b' n id h := by
    obtain ⟨g1, c', el', g2, g3⟩ := hr.box id b' n h
    by_cases e : b' = b
    · subst e
      rw [hh] at g2
      cases g2
      rw [hρ] at g1
      have e1 := Option.some.inj g1
      refine ⟨by rw [hρ, e1], ⟨cs, _, setRow_heap w b' _ _ _ _ hh, by rw [hsz, g3]⟩, fun j hn => ?_⟩
      rw [cell_setRow_same w b' j _ _ _ _ hh]
      simp [World.cell?, hh, h2 id e1 j hn]
    · exact ⟨g1, ⟨c', el', (setRow_other w b b' cs e).trans g2, g3⟩, fun j _ => cell_setRow_other w b cs _ e⟩
  lt b' h := by simpa using hr.lt b' h
  omr _ _ h _ := h
theorem Rep.storeBox (hr : Rep C G N used st a w) {id : Id} {b n off el : Nat} (hb : G.β id = some (b, n)) {c : Array Value} (hh : w.heap[b]? = some (.cells c el (0, 0))) {ls : List (Leaf Ω)} {vs : List Value} (hf : BoxFit C G w id off ls vs) (hin : off + vs.length ≤ c.size) :
    Fr G.ρ w G.ρ (w.setRow b (spl c off vs)) ∧ Rep C G N used (boxW id off ls ++ st) a (w.setRow b (spl c off vs)) := by
  obtain ⟨hρ, _⟩ := hr.box id b n hb
  have hstep : ∀ {L : Loc → Prop}, (∀ j, ¬ L (.box id j) → (spl c off vs)[j]? = c[j]?) → Step G w G (w.setRow b (spl c off vs)) L := fun h =>
    setRow_step hr hρ hh (spl_size hin) (fun l e => by cases e) (fun id' e j hn => by cases e; exact h j hn) (by simp) (by simp)
  have hs1 := hstep (L := fun l => inL l ((boxW id off ls).map (·.1)) = true) (fun j hn => by
    rw [spl_get hin, if_neg]
    rintro ⟨h1, h2⟩
    have := hf.1
    apply hn
    rw [show j = off + (j - off) by omega]
    exact inL_boxW' (by omega))
  refine ⟨hs1.fr, ?_⟩
  refine Rep.step hr hs1 (fun l hl => ?_) (fun _ _ => rfl) hr.size hr.defers (fun _ _ _ h => .inl h) hr.usedΓ hr.usedβ
  obtain ⟨j, rfl, hj⟩ := inL_boxW hl
  rw [get_boxW, if_pos (by omega), show off + j - off = j by omega, List.getElem?_eq_getElem hj]
  simp only []
  have hjv : j < vs.length := by have := hf.1; omega
  refine .inr ⟨b, n, vs[j], hb, ?_, ?_⟩
  · rw [cell_setRow_same w b _ _ _ _ _ hh, spl_get hin, if_pos (by omega)]
    rw [show off + j - off = j by omega]
    exact List.getElem?_eq_getElem hjv
  · have h0 := hf.2 j ls[j] vs[j] (List.getElem?_eq_getElem hj) (List.getElem?_eq_getElem hjv)
    -- what stands in the leaf owns no block of the box
    have hs2 := hstep (L := fun l => ∃ j, l = .box id j ∧ False ∨ l = .box id j) (fun j hn => absurd ⟨j, .inr rfl⟩ hn)
    cases hx : ls[j] with
    | arr id' e xs =>
      rw [hx] at h0
      obtain ⟨l', e1, e2, ha⟩ := h0
      cases e1
      refine ⟨_, rfl, e2, ?_⟩
      rcases ha with h | ⟨b2, o2, cap, c2, el2, hv, hc, hρ2, hh2, hsz, hx2⟩
      · exact .inl h
      · have hne : b2 ≠ b := by intro e; subst e; rw [hρ] at hρ2; cases hρ2
        exact .inr ⟨b2, o2, cap, c2, el2, hv, hc, hρ2, (setRow_other w b b2 _ hne).trans hh2, hsz, fun j hj => let ⟨vs, hr, hat⟩ := hx2 j hj; ⟨vs, hr.mono hs1.free, hat⟩⟩
    | omp id' k vt m =>
      rw [hx] at h0
      obtain ⟨l', bs, e1, e2, ha⟩ := h0
      cases e1
      refine ⟨_, bs, rfl, e2, ?_⟩
      obtain ⟨b2, es, clock, hv, hρ2, hh2, hsz, hbs, hx2, hr2⟩ := ha
      have hne : b2 ≠ b := by intro e; subst e; rw [hρ] at hρ2; cases hρ2
      exact ⟨b2, es, clock, hv, hρ2, (setRow_other w b b2 _ hne).trans hh2, hsz, hbs, fun j hj => let ⟨en, he, h1, h2⟩ := hx2 j hj; ⟨en, he, h1.mono hs1.free, h2.mono hs1.free⟩, hr2⟩
    | _ => rw [hx] at h0; exact ((h0.any (at' := none) trivial).step hs1 (fun _ e => by cases e)).any (at' := some (.box id (off + j))) trivial
theorem ok_storeBox (hT : TabOk P T) {t : Nat} {x y : Operand} {ti : TI} (hti : T.get t = some ti) {id : Id} {off n : Nat} {u : AV Ω} (hdst : dst = none) {G1 : Ghost} {used1 : Id → Prop}
    (hr1 : Rep C G1 N used1 st a w) (hx : RepL C G1 w none (.ref id off n : Leaf Ω) (a.eval x)) (hu : RepAV C G1 w (some (.box id off)) u (a.eval y)) (hfit : and (fitsV u ti.size) (Nat.ble (off + ti.size) n) = true)
    (hK : ∀ G' a' w', Fr G1.ρ w G'.ρ w' → Rep C G' N used1 (boxW id off (leavesOf u) ++ st) a' w' → K a' w') : (⟨dst, .store t x y, ty, pos, after, guard⟩ : Oper).wp P a w K Q := by
  subst hdst
  rw [Bool.and_eq_true] at hfit
  obtain ⟨hsz, hlen⟩ := fitsV_iff hfit.1
  have hle := Nat.le_of_ble_eq_true hfit.2
  obtain ⟨hbf, h1⟩ := BoxFit.of_av hu hsz
  obtain ⟨b, hb, e⟩ := hx
  obtain ⟨_, c, el, hh, hcn⟩ := hr1.box id b n hb
  have hcs : (a.eval y).cells.size = ti.size := by
    have := hbf.1
    simp at this
    omega
  have hl2 : (a.eval y).cells.toList.length = ti.size := by simpa using hcs
  obtain ⟨hfr, hrep⟩ := hr1.storeBox hb hh hbf (by omega)
  exact wp_skip (run_store_op e (run_storeVar hT hti hh hcs (by omega) h1)) (hK _ _ _ hfr hrep)
/-- An element's place is written. -/
theorem elem_spl {e : Ty} {o cap : Nat} {c : Array Value} {k off : Nat} {vs nv : List Value} (hcap : o + cap * width e ≤ c.size) (hk : k < cap) (hvs : vs.length = width e) (hnv : off + nv.length ≤ width e)
    (hat : ∀ i v, vs[i]? = some v → c[o + k * width e + i]? = some v) : (∀ i v, ((vs.take off ++ nv ++ vs.drop (off + nv.length)) : List Value)[i]? = some v → (spl c (o + k * width e + off) nv)[o + k * width e + i]? = some v) ∧
    ∀ (j : Nat) (us : List Value), j ≠ k → us.length = width e → (∀ i v, us[i]? = some v → c[o + j * width e + i]? = some v) → ∀ i v, us[i]? = some v → (spl c (o + k * width e + off) nv)[o + j * width e + i]? = some v := by
  have hkw : k * width e + width e ≤ cap * width e := by
    have : (k + 1) * width e ≤ cap * width e := Nat.mul_le_mul_right _ hk
    rw [Nat.add_mul] at this; omega
  have hin : o + k * width e + off + nv.length ≤ c.size := by omega
  refine ⟨fun i v hi => ?_, fun j us hj hus hau i v hi => ?_⟩
  · rw [spl_get hin]
    have hl : (vs.take off).length = off := by simp; omega
    rw [List.append_assoc, List.getElem?_append, hl] at hi
    by_cases h1 : i < off
    · rw [if_pos h1, List.getElem?_take, if_pos h1] at hi
      rw [if_neg (by omega)]
      exact hat i v hi
    · rw [if_neg h1, List.getElem?_append] at hi
      by_cases h2 : i - off < nv.length
      · rw [if_pos h2] at hi
        rw [if_pos (by omega), show o + k * width e + i - (o + k * width e + off) = i - off by omega]
        exact hi
      · rw [if_neg h2, List.getElem?_drop, show off + nv.length + (i - off - nv.length) = i by omega] at hi
        rw [if_neg (by omega)]
        exact hat i v hi
  · have hi' : i < width e := by rw [← hus]; exact (List.getElem?_eq_some_iff.1 hi).1
    rw [spl_get hin, if_neg]
    · exact hau i v hi
    · rintro ⟨h1, h2⟩
      rcases Nat.lt_or_gt_of_ne hj with h | h
      · have : (j + 1) * width e ≤ k * width e := Nat.mul_le_mul_right _ h
        rw [Nat.add_mul] at this
        omega
      · have : (k + 1) * width e ≤ j * width e := Nat.mul_le_mul_right _ h
        rw [Nat.add_mul] at this
        omega
theorem Rep.storeArr (hr : Rep C G N used st a w) {l : Loc} {id : Id} {e : Ty} {xs : List (El e)} (hl : st.get l = .one (.arr id e xs)) {b o len cap off : Nat} {bs : List Nat} {k : Nat} (hΓ : G.Γ id = some (.slice (some ⟨b, o, none⟩) len cap, bs)) (hk : k < xs.length)
    {z : El e} {nv vs : List Value} (hrv : RepC w G.O e xs[k] vs) (hvc : ∃ c el, w.heap[b]? = some (.cells c el (0, 0)) ∧ ∀ i v, vs[i]? = some v → c[o + k * width e + i]? = some v) (hnv : off + nv.length ≤ width e) (hz : RepC w G.O e z (vs.take off ++ nv ++ vs.drop (off + nv.length))) :
    ∃ c el, w.heap[b]? = some (.cells c el (0, 0)) ∧ o + k * width e + off + nv.length ≤ c.size ∧ Fr G.ρ w G.ρ (w.setRow b (spl c (o + k * width e + off) nv)) ∧
      Rep C G N used ([(l, .one (.arr id e (xs.set k z)))] ++ st) a (w.setRow b (spl c (o + k * width e + off) nv)) := by
  have ha := ali_arr hr ⟨bs, hΓ⟩ hl (idB_iff.2 rfl)
  rcases ha with ⟨rfl, _⟩ | ⟨b2, o2, cap2, c, el, ev, hcap, hρ, hh, hsz, hx⟩
  · simp at hk
  cases ev
  obtain ⟨c', el', hh', hvc⟩ := hvc
  rw [hh] at hh'
  cases hh'
  have hvl := RepC_len hrv
  obtain ⟨e1, e2⟩ := elem_spl hsz (Nat.lt_of_lt_of_le hk hcap) hvl hnv hvc
  have hkw : k * width e + width e ≤ cap * width e := by
    have : (k + 1) * width e ≤ cap * width e := Nat.mul_le_mul_right _ (by omega)
    rw [Nat.add_mul] at this; omega
  have hin : o + k * width e + off + nv.length ≤ c.size := by omega
  have hs1 := setRow_step hr hρ hh (spl_size hin) (L := fun l' => inL l' [l] = true) (fun l' h => by cases h; simp [inL, locB_self]) (fun id' h => by cases h) (by simp) (by simp)
  refine ⟨c, el, hh, hin, hs1.fr, ?_⟩
  refine Rep.step (ws := [(l, .one (.arr id e (xs.set k z)))]) hr hs1 (fun l' hl' => ?_) (fun _ _ => rfl) hr.size hr.defers (fun _ _ _ h => .inl h) hr.usedΓ hr.usedβ
  obtain rfl : l' = l := by simpa [inL_iff] using hl'
  have hg : S.get [(l', AV.one (Leaf.arr (Ω := Ω) id e (xs.set k z)))] l' = .one (.arr id e (xs.set k z)) := by simp [S.get, locB_self]
  rw [hg]
  have hat := hr.at_ l'
  rw [hl] at hat
  have key : ∀ v, RepL C G w (some l') (.arr id e xs) v → RepL C G (w.setRow b (spl c (o + k * width e + off) nv)) (some l') (.arr id e (xs.set k z)) v := by
    rintro v ⟨l2, e0, ⟨bs', hΓ'⟩, _⟩
    cases e0
    rw [hΓ] at hΓ'
    cases hΓ'
    refine ⟨_, rfl, ⟨bs, hΓ⟩, .inr ⟨b, o, cap, _, el, by simp, by simpa using hcap, hρ, setRow_heap w b _ _ _ _ hh, by rw [spl_size hin]; exact hsz, fun j hj => ?_⟩⟩
    have hj' : j < xs.length := by simpa using hj
    by_cases e3 : j = k
    · subst e3
      refine ⟨_, ?_, e1⟩
      simp only [List.getElem_set_self]
      exact hz.mono hs1.free
    · obtain ⟨us, hru, hau⟩ := hx j hj'
      refine ⟨us, ?_, e2 j us e3 (RepC_len hru) hau⟩
      rw [List.getElem_set_ne (by omega)]
      exact hru.mono hs1.free
  cases l' with
  | tmp t => exact key _ hat
  | comp t i =>
    rcases hat with h | ⟨v, h⟩
    · cases h
    · exact .inr ⟨v, key v h⟩
  | box id' j =>
    rcases hat with h | ⟨b', n', v, hb, hc, h⟩
    · cases h
    · have hne : b' ≠ b := by
        intro e; subst e
        rw [(hr.box id' b' n' hb).1] at hρ
        cases hρ
      exact .inr ⟨b', n', v, hb, (cell_setRow_other w b _ _ hne).trans hc, key v h⟩
  | om => rcases hat with h | ⟨s, h, _⟩ <;> cases h
theorem ok_store (hT : TabOk P T) {t : Nat} {x y : Operand} {frz : Bool} (hdst : dst = none) : OpOk P C N rc i ⟨dst, .store t x y, ty, pos, after, guard⟩
    (Prg.opt (T.get t) fun ti => opG x fun va => (match va with
      | .one (.ref b off n) => opG y fun v => (match frz with
        | true => freeze y v fun u => (match and (fitsV u ti.size) (Nat.ble (off + ti.size) n) with | true => .done (boxW b off (leavesOf u)) | false => .fail)
        | false => takeV y (rc, i, 1) v fun u => (match and (fitsV u ti.size) (Nat.ble (off + ti.size) n) with | true => .done (boxW b off (leavesOf u)) | false => .fail))
      | .one (.aptr l id sz n off) => opG y fun v => freeze y v fun u => .get l fun w => (match w with
        | .one (.arr id' e xs) => (match and (idB id id') (and (Nat.beq sz (width e)) (Nat.ble (off + ti.size) (width e))), fitsV u ti.size with
          | true, true => .bind (idx xs n) fun y => Prg.opt (packAll e ((unpack e y).take off ++ leavesOf u ++ (unpack e y).drop (off + ti.size))) fun z =>
              .done [(l, .one (.arr id' e (xs.set n.toNat z)))]
          | _, _ => .fail)
        | _ => .fail)
      | _ => .fail)) := by
  intro G used st a w acc rs ws hr hf h K Q hK
  obtain ⟨ti, hti, h⟩ := runs_opt h
  obtain ⟨va, acc1, h, hva, -⟩ := runs_opG hr h
  split at h
  · rename_i bid off n
    obtain ⟨v, acc2, h, hv, hs⟩ := runs_opG hr h
    have hva' : RepAV C G w none (.one (.ref bid off n : Leaf Ω)) (a.eval x) := hva.any trivial
    cases frz with
    | true =>
      obtain ⟨u, ws', ws2, acc3, G1, rfl, h, hm, hΓ, hβ, hr1, hu, hn⟩ := runs_freeze hr hv hs h
      cases hfit : and (fitsV u ti.size) (Nat.ble (off + ti.size) n) with
      | false => simp only [hfit] at h; exact h.elim
      | true =>
        simp only [hfit] at h
        obtain ⟨rfl, -⟩ := h
        exact ok_storeBox hT hti hdst (hr1.at_op rc i) (RepAV.moves hm hva') (hu.any hn) hfit (hK_step hm.fr hK)
    | false =>
      obtain ⟨u, ws', ws2, acc3, G1, rfl, h, hm, hβ, hr1, hu⟩ := runs_take hr hv hs (.box bid off) (hf 1) (used' := usedAt used rc i) (fun _ h => .inl h) (.inr ⟨1, rfl⟩) h
      cases hfit : and (fitsV u ti.size) (Nat.ble (off + ti.size) n) with
      | false => simp only [hfit] at h; exact h.elim
      | true =>
        simp only [hfit] at h
        obtain ⟨rfl, -⟩ := h
        exact ok_storeBox hT hti hdst hr1 (RepAV.moves hm hva') hu hfit (hK_step hm.fr hK)
  · rename_i l id sz n off
    have hva' : RepAV C G w none (.one (.aptr l id sz n off : Leaf Ω)) (a.eval x) := hva.any trivial
    obtain ⟨v, acc2, h, hv, hs⟩ := runs_opG hr h
    obtain ⟨u, ws', ws2, acc3, G1, rfl, h, hm, hΓe, hβ, hr1, hu, hn⟩ := runs_freeze hr hv hs h
    obtain ⟨b, o', len, cap, bs, hΓ, h0, h1, e⟩ := RepAV.moves hm hva'
    have h' : Prg.Runs (ws' ++ st) (match S.get (ws' ++ st) l with
      | .one (.arr id' e xs) => (match and (idB id id') (and (Nat.beq sz (width e)) (Nat.ble (off + ti.size) (width e))), fitsV u ti.size with
          | true, true => .bind (idx xs n) fun y => Prg.opt (packAll e ((unpack e y).take off ++ leavesOf u ++ (unpack e y).drop (off + ti.size))) fun z =>
              .done [(l, .one (.arr id' e (xs.set n.toNat z)))]
          | _, _ => .fail)
      | _ => .fail) (l :: acc3) rs ws2 := h
    split at h'
    · rename_i id' e' xs hl
      split at h'
      · rename_i hc hfit
        rw [Bool.and_eq_true, Bool.and_eq_true] at hc
        obtain ⟨hid, hsz, hle⟩ := hc
        obtain rfl := idB_iff.1 hid
        obtain rfl := Nat.eq_of_beq_eq_true hsz
        have hle := Nat.le_of_ble_eq_true hle
        obtain ⟨yv, hy, h'⟩ := h'
        obtain ⟨h2, h3, rfl⟩ := idx_some hy
        obtain ⟨z, hz, h'⟩ := runs_opt h'
        obtain ⟨rfl, -⟩ := h'
        obtain ⟨hsz2, hlen⟩ := fitsV_iff hfit
        have hlv := leaves_rep hu hsz2
        have hl1 := leaves_one hu hsz2
        have hlvl := hlv.length
        have hcs : (a.eval y).cells.size = ti.size := by
          have : (a.eval y).cells.toList.length = (a.eval y).cells.size := Array.length_toList
          omega
        have ha := ali_arr hr1 ⟨bs, hΓ⟩ hl (idB_iff.2 rfl)
        rcases ha with ⟨rfl, _⟩ | ⟨b2, o2, cap2, c, el, ev, hcap, hρ, hh, hsz3, hx⟩
        · simp at h3
        cases ev
        obtain ⟨vs, hrv, hat⟩ := hx _ h3
        have hzr : RepC w G1.O e' z (vs.take off ++ (a.eval y).cells.toList ++ vs.drop (off + (a.eval y).cells.toList.length)) := by
          have hun := unpack_rep (C := C) hrv
          have := packAll_rep (C := C) hz (((hun.take off).append hlv).append (hun.drop (off + ti.size)))
          rw [Array.length_toList, hcs]
          exact this
        obtain ⟨c', el', hh', hin, hfr, hrep⟩ := hr1.storeArr (off := off) hl hΓ h3 hrv ⟨c, el, hh, hat⟩ (by rw [Array.length_toList, hcs]; exact hle) hzr
        rw [hh] at hh'
        cases hh'
        rw [Array.length_toList, hcs] at hin
        subst hdst
        refine wp_skip (run_store_op e (run_storeVar hT hti hh hcs hin hl1)) ?_
        exact hK_step hm.fr hK _ _ _ hfr (hrep.at_op rc i)
      · exact h'.elim
    · exact h'.elim
  · exact h.elim
end
end Go.Proofs.Ytbgefphoochgcaa.FE
