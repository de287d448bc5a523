/- FE, part 2: what each operation does to a state, as a small program. -/
import Derived.Test.YtbgefphoochgcaaFeA
namespace Go.Proofs.Ytbgefphoochgcaa.FE
open Go
set_option linter.unusedVariables false
set_option linter.unusedSimpArgs false
section
variable {Ω : Type}

/-- A slice is not let grow past this. -/
def LIM : Nat := 68719476736
def limB (n : Nat) : Bool := decide (n ≤ LIM)
def imax (a b : Int) : Int := match decide (b > a) with | true => b | false => a
def imin (a b : Int) : Int := match decide (b < a) with | true => b | false => a
def bitsOf (op : BinOp) (k : IntKind) (x y : Int) : Option Int :=
  match op with
  | .and => some (k.wrap (BitVec.ofInt k.bits x &&& BitVec.ofInt k.bits y).toNat)
  | .or => some (k.wrap (BitVec.ofInt k.bits x ||| BitVec.ofInt k.bits y).toNat)
  | .xor => some (k.wrap (BitVec.ofInt k.bits x ^^^ BitVec.ofInt k.bits y).toNat)
  | _ => none
def strLt (x y : ByteArray) : Bool := Op.bytesLess x.toList y.toList
def strEq (x y : ByteArray) : Bool := x.toList == y.toList

def keyL : AV Ω → List (Leaf Ω) | .one l => [l] | _ => []
/-- Has it a known number of cells? -/
def liveL : Leaf Ω → Bool | .dead => false | _ => true
def allLive : List (Leaf Ω) → Bool
  | [] => true
  | l :: r => match liveL l with | true => allLive r | false => false
def sizedV : AV Ω → Bool
  | .one l => liveL l
  | .agg ls => allLive ls
  | .tup _ => false
def aggV : AV Ω → Bool | .agg _ => true | _ => false
def fitsV (u : AV Ω) (n : Nat) : Bool := and (sizedV u) (Nat.beq (leavesOf u).length n)
def putP (o : Oper) (v : AV Ω) : Prg Ω := match o.dst with | some d => .done [(.tmp d, v)] | none => .done []
def boxW (id : Id) : Nat → List (Leaf Ω) → List (Loc × AV Ω)
  | _, [] => []
  | j, l :: ls => (.box id j, .one l) :: boxW id (j + 1) ls
/-- The leaves of a box, as a look at them. -/
def getN (id : Id) : (j n : Nat) → (List (Leaf Ω) → Prg Ω) → Prg Ω
  | _, 0, f => f []
  | j, n + 1, f => .get (.box id j) fun v => match v with
      | .one (.arr id' _ _) => getN id (j + 1) n fun ls => f (.ali (.box id j) id' :: ls)
      | .one (.omp id' _ _ _) => getN id (j + 1) n fun ls => f (.ali (.box id j) id' :: ls)
      | .one .dead => .fail
      | .one l => getN id (j + 1) n fun ls => f (l :: ls)
      | _ => .fail
/-- The leaves are a whole value of the type. -/
def loadB (ti : TI) (ls : List (Leaf Ω)) : Bool := and (Nat.beq ls.length ti.size) (or (isSt ti.kind) (Nat.beq ls.length 1))
def arithP (op : BinOp) (k : IntKind) (x y : Int) (f : AV Ω → Prg Ω) : Prg Ω :=
  match op with
  | .add => f (.one (.dat (.int k) (k.wrap (x + y))))
  | .sub => f (.one (.dat (.int k) (k.wrap (x - y))))
  | .mul => f (.one (.dat (.int k) (k.wrap (x * y))))
  | .quo => .ite (decide (y = 0)) .fail (f (.one (.dat (.int k) (k.wrap (x.tdiv y)))))
  | .rem => .ite (decide (y = 0)) .fail (f (.one (.dat (.int k) (x.tmod y))))
  | .eql => f (.one (.dat .bool (decide (x = y))))
  | .neq => f (.one (.dat .bool (!(decide (x = y)))))
  | .lss => f (.one (.dat .bool (decide (x < y))))
  | .leq => f (.one (.dat .bool (decide (x ≤ y))))
  | .gtr => f (.one (.dat .bool (decide (x > y))))
  | .geq => f (.one (.dat .bool (decide (x ≥ y))))
  | .shl => .ite (decide (0 ≤ y)) (f (.one (.dat (.int k) (k.wrap (x * 2 ^ (min y.toNat k.bits)))))) .fail
  | .shr => .ite (decide (0 ≤ y)) (f (.one (.dat (.int k) (x.fdiv (2 ^ (min y.toNat k.bits)))))) .fail
  | op => Prg.opt (bitsOf op k x y) fun z => f (.one (.dat (.int k) z))
def strP (op : BinOp) (x y : ByteArray) (f : AV Ω → Prg Ω) : Prg Ω :=
  match op with
  | .eql => f (.one (.dat .bool (strEq x y)))
  | .neq => f (.one (.dat .bool (!(strEq x y))))
  | .lss => f (.one (.dat .bool (strLt x y)))
  | .add => .ite (limB (x.size + y.size)) (f (.one (.dat .str (x ++ y)))) .fail
  | _ => .fail
def nilP (op : BinOp) (b : Bool) (f : AV Ω → Prg Ω) : Prg Ω :=
  match op with
  | .eql => f (.one (.dat .bool b))
  | .neq => f (.one (.dat .bool (!b)))
  | _ => .fail
def isNilV : AV Ω → Option Bool
  | .one .nilP => some true
  | .one (.ref _ _ _) => some false
  | .one (.eptr _ _) => some false
  | .one (.dat (.pt _) x) => some x.isNone
  | _ => none
def buildP (T : Tab) (fs : List (Nat × Nat)) : List (Nat × Operand) → List (Leaf Ω) → (List (Leaf Ω) → Prg Ω) → Prg Ω
  | [], ls, f => f ls
  | (j, x) :: r, ls, f => Prg.opt (fs[j]?) fun p => Prg.opt (T.get p.2) fun fi => opG x fun v => freeze x v fun u =>
      match and (fitsV u fi.size) (Nat.ble (p.1 + fi.size) ls.length) with
      | true => buildP T fs r (ls.take p.1 ++ leavesOf u ++ ls.drop (p.1 + fi.size)) f
      | false => .fail
def elemsP (e : Ty) : Nat → List (Nat × Operand) → (List (El e) → Prg Ω) → Prg Ω
  | _, [], f => f []
  | n, (j, x) :: r, f => match Nat.beq n j with
    | true => opG x fun v => freeze x v fun u => match fitsV u (width e) with
      | true => Prg.opt (packAll e (leavesOf u)) fun y => elemsP e (n + 1) r fun ys => f (y :: ys)
      | false => .fail
    | false => .fail
def slV (own : Bool) (id : Id) (e : Ty) (xs : List (El e)) : AV Ω := match own with | true => .one (.arr id e xs) | false => .one (.dat (.sl e) xs)
def putS (o : Oper) (own : Bool) (id : Id) (e : Ty) (xs : List (El e)) : Prg Ω := match o.dst with | some d => .done [(.tmp d, slV own id e xs)] | none => .fail
/-- Where an operand's owned value stands. -/
def ownLoc (o : Operand) (v : AV Ω) : Option (Loc × Id) :=
  match v, o with
  | .one (.ali l id), _ => some (l, id)
  | .one (.omp id _ _ _), .tmp t => some (.tmp t, id)
  | .one (.arr id _ _), .tmp t => some (.tmp t, id)
  | _, _ => none
/-- An owned map, to be written. -/
def mapG (o : Operand) (v : AV Ω) (f : Loc → Id → (k v : Ty) → List (El k × El v) → Prg Ω) : Prg Ω :=
  match ownLoc o v with
  | some (l, id) => .get l fun u => match u with
    | .one (.omp id' a b m) => (match idB id id' with | true => f l id' a b m | false => .fail)
    | _ => .fail
  | none => .fail
/-- The operation's type is the map's. -/
def mapT (ti : TI) (K V : Ty) (p : Prg Ω) : Prg Ω :=
  match ti.kind, ti.ty with
  | .mp _ _, .mp K' V' => (match and (K.beq K') (V.beq V') with | true => p | false => .fail)
  | _, _ => .fail
/-- An owned slice, to be written. -/
def arrG (o : Operand) (v : AV Ω) (f : Loc → Id → (e : Ty) → List (El e) → Prg Ω) : Prg Ω :=
  match ownLoc o v with
  | some (l, id) => .get l fun u => match u with
    | .one (.arr id' e xs) => (match idB id id' with | true => f l id' e xs | false => .fail)
    | _ => .fail
  | none => .fail
def optInt (o : Option Operand) (d : Int) (f : Int → Prg Ω) : Prg Ω := match o with | none => f d | some x => opG x fun v => intOf v f
def lookOut (ok : Bool) (V : Ty) (r : Option (El V)) : AV Ω :=
  match ok with
  | true => .tup [(rowB V, unpack V (r.getD (zeroEl V))), (false, [.dat .bool r.isSome])]
  | false => avOf (rowB V) (unpack V (r.getD (zeroEl V)))

/-! ### calls -/
def bothB (a b : Bool) : Bool := match a, b with | true, true => true | false, false => true | _, _ => false
/-- A variable's leaf, as its shape has it. -/
def leafLS (s : LS) (v : AV Ω) : Option DL :=
  match s, v with
  | .dat t, .one l => (packAll t [l]).map fun x => ⟨t, x⟩
  | .arr e, .one (.arr _ e' xs) => (cast? (.sl e') (.sl e) xs).map fun x => ⟨.sl e, x⟩
  | .arr e, .one .nilS => some ⟨.sl e, ([] : List (El e))⟩
  | .omp k v, .one (.omp _ k' v' m) => (cast? (.mp k' v') (.mp k v) m).map fun x => ⟨.mp k v, x⟩
  | _, _ => none
/-- What is handed over: data; an owned value that goes (it waits at 'goL'); an owned value that comes back; a variable, leaf by leaf. -/
inductive Pln where
  | d (x : DL) | t (id : Id) (s : LS) | m (l : Loc) (id : Id) (s : LS) | b (id : Id) (ls : List LS) | n
def goL (rc i p : Nat) : Loc := .comp (1000000 + rc * 1000 + i) p
def takeK (rc i p : Nat) (s : LS) (f : Pln → Prg Ω) (u : AV Ω) : Prg Ω :=
  match s, u with
  | .arr e, .one (.arr id e' xs) => Prg.opt (cast? (.sl e') (.sl e) xs) fun _ => .upd [(goL rc i p, .one (.arr id e' xs))] (f (.t id (.arr e)))
  | .arr e, .one .nilS => .upd [(goL rc i p, .one (.arr (rc, i, 2 + 2 * p) e []))] (f (.t (rc, i, 2 + 2 * p) (.arr e)))
  | .omp a b, .one (.omp id a' b' m) => Prg.opt (cast? (.mp a' b') (.mp a b) m) fun _ => .upd [(goL rc i p, .one (.omp id a' b' m))] (f (.t id (.omp a b)))
  | _, _ => .fail
def argP (sc : Bool) (rc i p : Nat) (q : PS) (o : Operand) (v : AV Ω) (f : Pln → Prg Ω) : Prg Ω :=
  match q with
  | .v (.dat t) => match sc with
    | true => borrow v fun u => match and (fitsV u (width t)) (bothB (aggV u) (rowB t)) with
      | true => Prg.opt (packAll t (leavesOf u)) fun x => f (.d ⟨t, x⟩)
      | false => .fail
    | false => freeze o v fun u => match and (fitsV u (width t)) (bothB (aggV u) (rowB t)) with
      | true => Prg.opt (packAll t (leavesOf u)) fun x => f (.d ⟨t, x⟩)
      | false => .fail
  | .v s => takeV o (rc, i, 1 + 2 * p) v (takeK rc i p s f)
  | .mu s => match s with
    | .arr _ => arrG o v fun l id e xs => f (.m l id s)
    | .omp _ _ => mapG o v fun l id a b m => f (.m l id s)
    | .dat _ => .fail
  | .ep t => match v with
    | .one (.eptr r y) => Prg.opt (packAll t (unpack (Ω := Ω) r y)) fun x => f (.d ⟨t, x⟩)
    | _ => .fail
  | .bx ls => match v with
    | .one (.ref id 0 n) => (match and (Nat.beq n ls.length) (Nat.blt 0 n) with | true => f (.b id ls) | false => .fail)
    | _ => .fail
  | .fn => match v with
    | .one .fnv => f .n
    | .one (.clo _ _) => f .n
    | _ => .fail
def argsP (sc : Bool) (rc i : Nat) : Nat → List PS → List Operand → (List Pln → Prg Ω) → Prg Ω
  | _, [], [], f => f []
  | p, q :: qs, o :: os, f => opG o fun v => argP sc rc i p q o v fun x => argsP sc rc i (p + 1) qs os fun xs => f (x :: xs)
  | _, _, _, _ => .fail
def boxL (id : Id) : Nat → Nat → List Loc
  | _, 0 => []
  | j, n + 1 => .box id j :: boxL id (j + 1) n
/-- The places of what is handed over. -/
def plnL (rc i : Nat) : Nat → List Pln → List Loc
  | _, [] => []
  | p, .d _ :: r => plnL rc i (p + 1) r
  | p, .n :: r => plnL rc i (p + 1) r
  | p, .t _ _ :: r => goL rc i p :: plnL rc i (p + 1) r
  | p, .m l _ _ :: r => l :: plnL rc i (p + 1) r
  | p, .b id ls :: r => boxL id 0 ls.length ++ plnL rc i (p + 1) r
def inL (l : Loc) : List Loc → Bool
  | [] => false
  | a :: r => match locB a l with | true => true | false => inL l r
def distL : List Loc → Bool
  | [] => true
  | a :: r => match inL a r with | true => false | false => distL r
def idV (id : Id) : AV Ω → Bool
  | .one (.arr id' _ _) => idB id id'
  | .one (.omp id' _ _ _) => idB id id'
  | _ => false
def readB (id : Id) : Nat → List LS → (List DL → Prg Ω) → Prg Ω
  | _, [], f => f []
  | j, s :: r, f => .get (.box id j) fun v => Prg.opt (leafLS s v) fun d => readB id (j + 1) r fun ds => f (d :: ds)
def readP (rc i p : Nat) (x : Pln) (f : List DL → Prg Ω) : Prg Ω :=
  match x with
  | .d x => f [x]
  | .t id s => .get (goL rc i p) fun v => match idV id v with | true => Prg.opt (leafLS s v) fun d => f [d] | false => .fail
  | .m l id s => .get l fun v => match idV id v with | true => Prg.opt (leafLS s v) fun d => f [d] | false => .fail
  | .b id ls => readB id 0 ls f
  | .n => f []
def readPs (rc i : Nat) : Nat → List Pln → (List DL → Prg Ω) → Prg Ω
  | _, [], f => f []
  | p, x :: r, f => readP rc i p x fun ds => readPs rc i (p + 1) r fun ds' => f (ds ++ ds')
/-- A leaf of its own. -/
def leafOf (id : Id) (s : LS) (d : DL) : Option (Leaf Ω) :=
  match s with
  | .dat t => (cast? d.t t d.x).bind fun x => (match unpack (Ω := Ω) t x with | [l] => some l | _ => none)
  | .arr e => (cast? d.t (.sl e) d.x).bind fun x => some (.arr id e x)
  | .omp k v => (cast? d.t (.mp k v) d.x).bind fun x => some (.omp id k v x)
/-- Leaves stand in a variable again (n: the number of the next new id). -/
def outB (rc i : Nat) (id : Id) : Nat → Nat → List LS → List DL → Option (List (Loc × AV Ω))
  | _, _, [], [] => some []
  | n, j, s :: r, d :: ds => (leafOf (rc, i, n) s d).bind fun x => (outB rc i id (n + 1) (j + 1) r ds).bind fun ws => some ((.box id j, .one x) :: ws)
  | _, _, _, _ => none
def outPs (rc i : Nat) : Nat → Nat → List Pln → List DL → Option (List (Loc × AV Ω))
  | _, _, [], [] => some []
  | n, p, .d _ :: r, ds => outPs rc i n (p + 1) r ds
  | n, p, .n :: r, ds => outPs rc i n (p + 1) r ds
  | n, p, .t _ _ :: r, ds => (outPs rc i n (p + 1) r ds).bind fun ws => some ((goL rc i p, .one .dead) :: ws)
  | n, p, .m l _ s :: r, d :: ds => (leafOf (rc, i, n) s d).bind fun x => (outPs rc i (n + 1) (p + 1) r ds).bind fun ws => some ((l, .one x) :: ws)
  | n, p, .b id ls :: r, ds => (outB rc i id n 0 ls (ds.take ls.length)).bind fun ws => (outPs rc i (n + ls.length) (p + 1) r (ds.drop ls.length)).bind fun ws' => some (ws ++ ws')
  | _, _, _, _ => none
structure Res (Ω : Type) where
  v : AV Ω
  al : AV Ω
  ws : List (Loc × AV Ω)
  n : Nat
/-- One result: as it stands at l; how it's looked at from elsewhere; the writes that go with it. -/
def resP (own : Bool) (l : Loc) (rc i n : Nat) (r : RS) (ds : List DL) : Option (Res Ω) :=
  match r, ds with
  | .v (.dat t), [d] => (cast? d.t t d.x).bind fun x => some ⟨avOf (rowB t) (unpack t x), avOf (rowB t) (unpack t x), [], n⟩
  | .v (.arr e), [d] => (cast? d.t (.sl e) d.x).bind fun x => (match own with
      | true => some ⟨.one (.arr (rc, i, n) e x), .one (.ali l (rc, i, n)), [], n + 1⟩
      | false => some ⟨.one (.dat (.sl e) x), .one (.dat (.sl e) x), [], n⟩)
  | .v (.omp k v), [d] => (cast? d.t (.mp k v) d.x).bind fun x => (match own with
      | true => some ⟨.one (.omp (rc, i, n) k v x), .one (.ali l (rc, i, n)), [], n + 1⟩
      | false => some ⟨.one (.dat (.mp k v) x), .one (.dat (.mp k v) x), [], n⟩)
  | .bx ls, ds => (outB rc i (rc, i, n) (n + 1) 0 ls ds).bind fun ws => some ⟨.one (.ref (rc, i, n) 0 ls.length), .one (.ref (rc, i, n) 0 ls.length), ws, n + 1 + ls.length⟩
  | _, _ => none
structure ResM (Ω : Type) where
  vs : List (Bool × List (Leaf Ω))
  ws : List (Loc × AV Ω)
  ds : List DL
  n : Nat
def resMany' (own d rc i : Nat) : Nat → Nat → List RS → List DL → Option (ResM Ω)
  | n, _, [], ds => some ⟨[], [], ds, n⟩
  | n, k, r :: rs, ds => (resP (own.testBit k) (.comp d k) rc i n r (ds.take r.tys.length)).bind fun x => (resMany' own d rc i x.n (k + 1) rs (ds.drop r.tys.length)).bind fun y =>
      some ⟨(aggV x.al, leavesOf x.al) :: y.vs, (.comp d k, x.v) :: x.ws ++ y.ws, y.ds, y.n⟩
def plainS : PS → Bool | .v (.dat _) | .ep _ => true | _ => false
def allB {α : Type} (f : α → Bool) : List α → Bool
  | [] => true
  | a :: r => match f a with | true => allB f r | false => false
/-- Does a call of it only look at what it gets? -/
def lookR : RS → Bool | .v (.dat t) => scalar t | _ => false
def lookS (s : Sig) : Bool := and (allB lookR s.res) (allB plainS s.pars)
def callR (sg : Sig) (own rc i : Nat) (dst : Option Nat) (n : Nat) (ps : List Pln) (ds : List DL) : Option (List (Loc × AV Ω)) :=
  match sg.res with
  | [] => (outPs rc i n 0 ps ds).bind fun ws => some ((match dst with | some d => [(.tmp d, .one .dead)] | none => []) ++ ws)
  | [r] => match dst with
    | some d => (resP (own.testBit 0) (.tmp d) rc i n r (ds.take r.tys.length)).bind fun x => (outPs rc i x.n 0 ps (ds.drop r.tys.length)).bind fun ws => some ((.tmp d, x.v) :: x.ws ++ ws)
    | none => (outPs rc i n 0 ps (ds.drop r.tys.length)).bind fun ws => some ws
  | rs => match dst with
    | some d => (resMany' own d rc i n 0 rs ds).bind fun y => (outPs rc i y.n 0 ps y.ds).bind fun ws => some ((.tmp d, .tup y.vs) :: y.ws ++ ws)
    | none => none
def dstL (dst : Option Nat) : List Loc := match dst with | some d => [.tmp d] | none => []
def callP (fn : Fun) (own : Nat) (rc i : Nat) (o : Oper) (args : List Operand) : Prg Ω :=
  argsP (lookS fn.sig) rc i 0 fn.sig.pars args fun ps => .ite (distL (dstL o.dst ++ plnL rc i 0 ps)) (readPs rc i 0 ps fun ds =>
    Prg.opt (mkTup fn.sig.ins ds) fun x => .bind (fn.f x) fun y =>
      Prg.opt (callR fn.sig own rc i o.dst (1 + 2 * fn.sig.pars.length) ps (unOut fn.sig.outs y)) fun ws => .done ws) .fail
def funGet {α : Type _} : List (Nat × α) → Nat → Option α
  | [], _ => none
  | (k, f) :: r, n => match Nat.beq k n with | true => some f | false => funGet r n

/-! ### closures -/
def capG : List Operand → (List (Id × Nat × Nat) → Prg Ω) → Prg Ω
  | [], f => f []
  | o :: os, f => opG o fun v => match v with
    | .one (.ref id off n) => capG os fun cs => f ((id, off, n) :: cs)
    | _ => .fail
/-- What is handed over with a closure: its variables. -/
def capsP : List (Id × Nat × Nat) → List PS → Option (List Pln)
  | [], [] => some []
  | c :: cs, .bx ls :: qs => (match and (Nat.beq c.2.1 0) (and (Nat.beq c.2.2 ls.length) (Nat.blt 0 c.2.2)) with
    | true => (capsP cs qs).bind fun r => some (.b c.1 ls :: r)
    | false => none)
  | _, _ => none
/-- A closure of the function's own, called. -/
def callC (fn : Fun) (own rc i : Nat) (o : Oper) (args : List Operand) (caps : List (Id × Nat × Nat)) : Prg Ω :=
  argsP false rc i 0 (fn.sig.pars.take args.length) args fun ps => Prg.opt (capsP caps (fn.sig.pars.drop args.length)) fun cs =>
    .ite (distL (dstL o.dst ++ plnL rc i 0 (ps ++ cs))) (readPs rc i 0 (ps ++ cs) fun ds => Prg.opt (mkTup fn.sig.ins ds) fun x => .bind (fn.f x) fun y =>
      Prg.opt (callR fn.sig own rc i o.dst (1 + 2 * fn.sig.pars.length) (ps ++ cs) (unOut fn.sig.outs y)) fun ws => .done ws) .fail
/-- The closure that came in, called. -/
def callV (cl : CloG Ω) (rc i : Nat) (o : Oper) (args : List Operand) : Prg Ω :=
  argsP false rc i 0 (cl.as.map fun t => PS.v (.dat t)) args fun ps => readPs rc i 0 ps fun ds =>
    Prg.opt (mkTup cl.as ds) fun x => .get .om fun u => match u, o.dst with
      | .one (.opq s), some d => .bind (cl.g s x) fun y => .done [(.tmp d, avOf (rowB cl.b) (unpack cl.b y.1)), (.om, .one (.opq y.2))]
      | _, _ => .fail
/-- What a function makes of its variables and of data. -/
def cloG (fn : Fun) (as : List Ty) (b : Ty) (cty : List Ty) (s : El (outTy cty)) (x : Tup as) : Option (El b × El (outTy cty)) :=
  (mkTup fn.sig.ins (unTup as x ++ unOut cty s)).bind fun z => (fn.f z).bind fun y => match unOut fn.sig.outs y with
    | d :: ds => (cast? d.t b d.x).bind fun r => (mkOut cty ds).bind fun s' => some (r, s')
    | [] => none
def cloW (cl : CloG Ω) (as : List Ty) (b : Ty) (s : Ω) (x : Tup as) : Option (El b × Ω) :=
  (mkTup cl.as (unTup as x)).bind fun x' => (cl.g s x').bind fun y => (cast? cl.b b y.1).bind fun r => some (r, y.2)
def datsB : List PS → List Ty → Bool
  | [], [] => true
  | .v (.dat t) :: qs, t' :: ts => (match t.beq t' with | true => datsB qs ts | false => false)
  | _, _ => false
def resB : List RS → Ty → Bool
  | [.v (.dat t)], b => t.beq b
  | _, _ => false
def fnOp : List PS → List Operand → Option Operand
  | .fn :: _, o :: _ => some o
  | _ :: qs, _ :: os => fnOp qs os
  | _, _ => none
def capTys (fn : Fun) (n : Nat) : List Ty := (fn.sig.pars.drop n).flatMap PS.tys
/-- A function that takes a closure, with one of the function's own. -/
def callHC (fn : Fun) (h : Hof) (own rc i : Nat) (o : Oper) (args : List Operand) (caps : List (Id × Nat × Nat)) : Prg Ω :=
  .ite (and (datsB (fn.sig.pars.take h.as.length) h.as) (resB fn.sig.res h.b)) (argsP false rc i 0 h.sig.pars args fun ps => Prg.opt (capsP caps (fn.sig.pars.drop h.as.length)) fun cs =>
    .ite (distL (dstL o.dst ++ plnL rc i 0 (ps ++ cs))) (readPs rc i 0 ps fun ds => readPs rc i h.sig.pars.length cs fun es => Prg.opt (mkTup h.sig.ins ds) fun x => Prg.opt (mkOut (capTys fn h.as.length) es) fun s =>
      .bind (h.f (El (outTy (capTys fn h.as.length))) (cloG fn h.as h.b (capTys fn h.as.length)) s x) fun y =>
        Prg.opt (callR h.sig own rc i o.dst (1 + 2 * h.sig.pars.length) (ps ++ cs) (unOut h.sig.outs y.1 ++ unOut (capTys fn h.as.length) y.2)) fun ws => .done ws) .fail) .fail
/-- There is one closure among the parameters. -/
def oneFn : List PS → Bool
  | [] => false
  | .fn :: r => allB (fun q => match q with | .fn => false | _ => true) r
  | _ :: r => oneFn r
def plainF : PS → Bool | .v (.dat _) => true | .ep _ => true | .fn => true | _ => false
/-- A function that takes a closure, with the one that came in: it only looks at what it gets. -/
def callHV (sc : Bool) (cl : CloG Ω) (h : Hof) (rc i : Nat) (o : Oper) (args : List Operand) : Prg Ω :=
  .ite (allB plainF h.sig.pars) (argsP sc rc i 0 h.sig.pars args fun ps => readPs rc i 0 ps fun ds => Prg.opt (mkTup h.sig.ins ds) fun x => .get .om fun u => match u, o.dst, h.sig.res with
      | .one (.opq s), some d, [.v (.dat t)] => .bind (h.f Ω (cloW cl h.as h.b) s x) fun y => (match unOut h.sig.outs y.1 with
        | [e] => Prg.opt (cast? e.t t e.x) fun z => .done [(.tmp d, avOf (rowB t) (unpack t z)), (.om, .one (.opq y.2))]
        | _ => .fail)
      | _, _, _ => .fail) .fail

/-! ### the operations. own: what is made here is owned by where it stands (else it is data) · frz: what is assigned or stored becomes data -/
def opP (T : Tab) (Φ : Env Ω) (own : Nat) (frz : Bool) (rc i : Nat) (o : Oper) : Prg Ω :=
  match o.op with
  | .move x => opG x fun v => putP o (copyV x v)
  | .assign x => opG x fun v => (match frz with | true => freeze x v fun u => putP o u | false => takeV x (rc, i, 0) v fun u => putP o u)
  | .pick c a b => opG c fun vc => boolOf vc fun x => .ite x (opG a fun v => putP o (copyV a v)) (opG b fun v => putP o (copyV b v))
  | .box t x => Prg.opt (T.get t) fun ti => opG x fun v => takeV x (rc, i, 1) v fun u =>
      (match fitsV u ti.size, o.dst with
       | true, some d => .done ((.tmp d, .one (.ref (rc, i, 0) 0 ti.size)) :: boxW (rc, i, 0) 0 (leavesOf u))
       | _, _ => .fail)
  | .alloc t => Prg.opt (T.get t) fun ti =>
      (match and (Nat.beq (zeroLeaf (Ω := Ω) ti.ty).length ti.size) (Nat.blt 0 ti.size), o.dst with
       | true, some d => .done ((.tmp d, .one (.ref (rc, i, 0) 0 ti.size)) :: boxW (rc, i, 0) 0 (zeroLeaf ti.ty))
       | _, _ => .fail)
  | .fieldAddr s x f => Prg.opt (T.get s) fun ti => (match ti.kind with
      | .st fs => Prg.opt (fs[f]?) fun p => opG x fun v => (match v with
        | .one (.ref b off n) => putP o (.one (.ref b (off + p.1) n))
        | .one (.aptr l id sz n off) => putP o (.one (.aptr l id sz n (off + p.1)))
        | .one (.eptr t y) => Prg.opt (T.get p.2) fun fi => Prg.opt (packAll fi.ty (((unpack (Ω := Ω) t y).drop p.1).take fi.size)) fun z => putP o (.one (.eptr fi.ty z))
        | _ => .fail)
      | _ => .fail)
  | .load t x => Prg.opt (T.get t) fun ti => opG x fun v => (match v with
      | .one (.ref b off _) => getN b off ti.size fun ls => (match loadB ti ls with | true => putP o (avOf (isSt ti.kind) ls) | false => .fail)
      | .one (.eptr r y) => (match loadB ti (unpack (Ω := Ω) r y) with
        | true => putP o (avOf (isSt ti.kind) (unpack r y))
        | false => .fail)
      | .one (.aptr l id sz n off) => .get l fun u => (match u with
        | .one (.arr id' e xs) => (match and (idB id id') (Nat.beq sz (width e)) with
          | true => .bind (idx xs n) fun y => (match loadB ti (((unpack (Ω := Ω) e y).drop off).take ti.size) with
            | true => putP o (avOf (isSt ti.kind) (((unpack e y).drop off).take ti.size))
            | false => .fail)
          | false => .fail)
        | _ => .fail)
      | _ => .fail)
  | .store t a x => Prg.opt (T.get t) fun ti => opG a fun va => (match va with
      | .one (.ref b off n) => opG x fun v => (match frz with
        | true => freeze x v fun u => (match and (fitsV u ti.size) (Nat.ble (off + ti.size) n) with | true => .done (boxW b off (leavesOf u)) | false => .fail)
        | false => takeV x (rc, i, 1) v fun u => (match and (fitsV u ti.size) (Nat.ble (off + ti.size) n) with | true => .done (boxW b off (leavesOf u)) | false => .fail))
      | .one (.aptr l id sz n off) => opG x fun v => freeze x v fun u => .get l fun w => (match w with
        | .one (.arr id' e xs) => (match and (idB id id') (and (Nat.beq sz (width e)) (Nat.ble (off + ti.size) (width e))), fitsV u ti.size with
          | true, true => .bind (idx xs n) fun y => Prg.opt (packAll e ((unpack e y).take off ++ leavesOf u ++ (unpack e y).drop (off + ti.size))) fun z =>
              .done [(l, .one (.arr id' e (xs.set n.toNat z)))]
          | _, _ => .fail)
        | _ => .fail)
      | _ => .fail)
  | .nilCheck x => opG x fun v => (match v with
      | .one (.ref b off n) => putP o (.one (.ref b off n))
      | .one (.eptr t y) => putP o (.one (.eptr t y))
      | .one (.dat (.pt t) y) => .bind y fun z => putP o (.one (.eptr t z))
      | _ => .fail)
  | .indexAddr t x ix => Prg.opt (T.get t) fun ti => (match ti.kind, ti.ty with
      | .sl _, .sl E => opG x fun v => opG ix fun w => intOf w fun n => (match v with
        | .one (.dat (.sl e) xs) => (match Nat.beq (width E) (width e) with | true => .bind (idx xs n) fun y => putP o (.one (.eptr e y)) | false => .fail)
        | v => arrG x v fun l id e xs => (match Nat.beq (width E) (width e) with | true => .bind (idx xs n) fun _ => putP o (.one (.aptr l id (width e) n 0)) | false => .fail))
      | _, _ => .fail)
  | .binOp op t x y _ => Prg.opt (T.get t) fun ti => opG x fun a => opG y fun b => (match ti.kind, a, b with
      | .int k, .one (.dat (.int k1) n), .one (.dat (.int k2) m) => (match and (Nat.beq (IK k1) (IK k)) (Nat.beq (IK k2) (IK k)) with | true => arithP op k n m fun v => putP o v | false => .fail)
      | .bool, .one (.dat .bool n), .one (.dat .bool m) => nilP op (n == m) fun v => putP o v
      | .str, .one (.dat .str n), .one (.dat .str m) => strP op n m fun v => putP o v
      | .ptr _, .one .nilP, v => Prg.opt (isNilV v) fun c => nilP op c fun v => putP o v
      | .ptr _, v, .one .nilP => Prg.opt (isNilV v) fun c => nilP op c fun v => putP o v
      | _, _, _ => .fail)
  | .unOp op _ x => opG x fun v => (match op, v with
      | .not, .one (.dat .bool b) => putP o (.one (.dat .bool (!b)))
      | .neg, .one (.dat (.int k) n) => putP o (.one (.dat (.int k) (k.wrap (0 - n))))
      | _, _ => .fail)
  | .convert s t x => Prg.opt (T.get s) fun si => Prg.opt (T.get t) fun ti => opG x fun v => (match si.kind, ti.kind, v with
      | .int _, .int k, .one (.dat (.int _) n) => putP o (.one (.dat (.int k) (k.wrap n)))
      | _, _, _ => .fail)
  | .build t parts => Prg.opt (T.get t) fun ti => (match ti.kind, ti.ty with
      | .st fs, .st _ => buildP T fs parts.toList (zeroLeaf ti.ty) fun ls => (match Nat.beq ls.length ti.size with | true => putP o (.agg ls) | false => .fail)
      | _, _ => .fail)
  | .buildSlice t n parts => Prg.opt (T.get t) fun ti => (match ti.kind, ti.ty with
      | .sl et, .sl e => (match Nat.beq n parts.size, Nat.ble (n * width e) 16777216 with
        | true, true => elemsP e 0 parts.toList fun ys => putS o (own.testBit 0) (rc, i, 0) e ys
        | _, _ => .fail)
      | _, _ => .fail)
  | .makeMap t none => Prg.opt (T.get t) fun ti => (match ti.kind, ti.ty, o.dst with
      | .mp _ _, .mp k v, some d => .done [(.tmp d, .one (.omp (rc, i, 0) k v []))]
      | _, _, _ => .fail)
  | .makeSlice t l c => Prg.opt (T.get t) fun ti => (match ti.kind, ti.ty with
      | .sl _, .sl e => opG l fun vl => intOf vl fun n => opG c fun vc => intOf vc fun m =>
          .ite (and (decide (0 ≤ n)) (and (decide (n ≤ m)) (limB m.toNat))) (putS o (own.testBit 0) (rc, i, 0) e (List.replicate n.toNat (zeroEl e))) .fail
      | _, _ => .fail)
  | .insert t m k x => Prg.opt (T.get t) fun ti => opG m fun vm => opG k fun vk => opG x fun vx => freeze x vx fun u => mapG m vm fun l id K V mm => mapT ti K V <|
      Prg.opt (packAll K (keyL vk)) fun kk => (match and (fitsV u (width V)) (aggV u == rowB V) with
      | true => Prg.opt (packAll V (leavesOf u)) fun vv => .done [(l, .one (.omp (rc, i, 0) K V (upd mm kk vv)))]
      | false => .fail)
  | .mapUpdate t m k x => Prg.opt (T.get t) fun ti => opG m fun vm => opG k fun vk => opG x fun vx => freeze x vx fun u => mapG m vm fun l id K V mm => mapT ti K V <|
      Prg.opt (packAll K (keyL vk)) fun kk => (match and (fitsV u (width V)) (aggV u == rowB V) with
      | true => Prg.opt (packAll V (leavesOf u)) fun vv => .done [(l, .one (.omp (rc, i, 0) K V (upd mm kk vv)))]
      | false => .fail)
  | .lookup t x ix ok => Prg.opt (T.get t) fun ti => (match ti.kind, ti.ty with
      | .mp _ _, .mp K V => opG x fun vx => opG ix fun vk => Prg.opt (packAll K (keyL vk)) fun kk => borrow vx fun u => (match u with
        | .one .nilM => putP o (lookOut ok V none)
        | .one (.dat (.mp K' V') mm) => Prg.opt (cast? (.mp K' V') (.mp K V) mm) fun mm' => putP o (lookOut ok V (look mm' kk))
        | _ => .fail)
      | _, _ => .fail)
  | .extract x j => opG x fun v => (match v with | .tup vs => Prg.opt (vs[j]?) fun p => putP o (avOf p.1 p.2) | _ => .fail)
  | .slice t x lo hi none => Prg.opt (T.get t) fun ti => (match ti.kind, ti.ty with
      | .sl _, .sl E => opG x fun v => (match v with
        | .one (.dat (.sl e) xs) => (match Nat.beq (width E) (width e) with
          | true => optInt lo 0 fun a => optInt hi (xs.length : Int) fun b => .bind (cut xs a b) fun ys => putP o (.one (.dat (.sl e) ys))
          | false => .fail)
        | v => arrG x v fun l id e xs => (match Nat.beq (width E) (width e) with
          | true => optInt lo 0 fun a => optInt hi (xs.length : Int) fun b => .bind (cut xs a b) fun ys => putP o (.one (.avw l id (width e) a b))
          | false => .fail))
      | _, _ => .fail)
  | .makeFunc (.func fn) first captured => (match first.toList with
      | [] => capG captured.toList fun cs => putP o (.one (.clo fn cs))
      | _ => .fail)
  | .call c => (match c.callee with
    | .builtin .len => (match c.args.toList, c.argTypes.toList with
      | [x], [t] => Prg.opt (T.get t) fun ti => opG x fun v => borrow v fun u => (match ti.kind, u with
        | .sl _, .one (.dat (.sl _) xs) => putP o (.one (.dat (.int .i64) (xs.length : Int)))
        | .mp _ _, .one (.dat (.mp _ _) xs) => putP o (.one (.dat (.int .i64) (xs.length : Int)))
        | .str, .one (.dat .str s) => putP o (.one (.dat (.int .i64) (s.size : Int)))
        | .sl _, .one .nilS => putP o (.one (.dat (.int .i64) (0 : Int)))
        | .mp _ _, .one .nilM => putP o (.one (.dat (.int .i64) (0 : Int)))
        | _, _ => .fail)
      | _, _ => .fail)
    | .builtin .append => (match c.args.toList, c.argTypes.toList with
      | [x, y], [t, t'] => Prg.opt (T.get t) fun ti => opG x fun v => opG y fun w => borrow w fun u => (match ti.kind, ti.ty, u with
        | .sl _, .sl E, .one (.dat (.sl e) ys) => (match and (Nat.beq t t') (Nat.beq (width E) (width e)) with
          | true => takeV x (rc, i, 1) v fun a => (match a with
            | .one .nilS => .ite (limB ys.length) (putS o (own.testBit 0) (rc, i, 0) e ys) .fail
            | .one (.arr _ e' xs) => Prg.opt (cast? (.sl e') (.sl e) xs) fun xs' => .ite (limB (xs'.length + ys.length)) (putS o (own.testBit 0) (rc, i, 0) e (xs' ++ ys)) .fail
            | _ => .fail)
          | false => .fail)
        | _, _, _ => .fail)
      | _, _ => .fail)
    | .builtin .clear => (match c.args.toList, c.argTypes.toList, o.dst with
      | [x], [t], none => Prg.opt (T.get t) fun ti => (match ti.kind, ti.ty with
        | .sl _, .sl E => opG x fun v => (match v with
          | .one (.avw l id sz lo hi) => .get l fun u => (match u with
            | .one (.arr id' e xs) => (match and (idB id id') (and (Nat.beq sz (width e)) (E.beq e)) with
              | true => .bind (cut xs lo hi) fun ys => .done [(l, .one (.arr id' e (xs.take lo.toNat ++ List.replicate ys.length (zeroEl e) ++ xs.drop hi.toNat)))]
              | false => .fail)
            | _ => .fail)
          | _ => .fail)
        | _, _ => .fail)
      | _, _, _ => .fail)
    | .builtin .max => (match c.args.toList with
      | [x, y] => opG x fun v => opG y fun w => (match v, w with | .one (.dat (.int k) a), .one (.dat (.int _) b) => putP o (.one (.dat (.int k) (imax a b))) | _, _ => .fail)
      | _ => .fail)
    | .builtin .min => (match c.args.toList with
      | [x, y] => opG x fun v => opG y fun w => (match v, w with | .one (.dat (.int k) a), .one (.dat (.int _) b) => putP o (.one (.dat (.int k) (imin a b))) | _, _ => .fail)
      | _ => .fail)
    | .value (.func f) => (match funGet Φ.funs f with
      | some fn => callP fn own rc i o c.args.toList
      | none => Prg.opt (funGet Φ.hofs f) fun h => .ite (oneFn h.sig.pars) (Prg.opt (fnOp h.sig.pars c.args.toList) fun x => opG x fun v => (match v, Φ.clo with
        | .one (.clo g caps), _ => Prg.opt (funGet Φ.funs g) fun fn => callHC fn h own rc i o c.args.toList caps
        | .one .fnv, some cl => callHV (and (allB scalar h.as) (allB lookR h.sig.res)) cl h rc i o c.args.toList
        | _, _ => .fail)) .fail)
    | .value (.tmp t) => opG (.tmp t) fun v => (match v, Φ.clo with
      | .one (.clo g caps), _ => Prg.opt (funGet Φ.funs g) fun fn => callC fn own rc i o c.args.toList caps
      | .one .fnv, some cl => callV cl rc i o c.args.toList
      | _, _ => .fail)
    | _ => .fail)
  | _ => .fail
end
end Go.Proofs.Ytbgefphoochgcaa.FE
