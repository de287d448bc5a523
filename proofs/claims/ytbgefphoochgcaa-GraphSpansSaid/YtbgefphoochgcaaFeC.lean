/- FE, part 3: regions, code, functions. -/
import Derived.Test.YtbgefphoochgcaaFeB
namespace Go.Proofs.Ytbgefphoochgcaa.FE
open Go
set_option linter.unusedVariables false
set_option linter.unusedSimpArgs false
section
variable {Ω : Type}

/-! ### regions -/
structure LogRow where
  i : Nat
  rs : List Loc
  ws : List Loc
def apartL : List Loc → List Loc → Bool
  | [], _ => true
  | a :: r, b => match inL a b with | true => false | false => apartL r b
/-- Two operations may change places. -/
def apartR (x y : LogRow) : Bool := and (apartL x.ws y.rs) (and (apartL x.ws y.ws) (apartL x.rs y.ws))
def orderedB (bef : Array Nat) (i j : Nat) : Bool := or ((bef.getD i 0).testBit j) ((bef.getD j 0).testBit i)
def indep1 (bef : Array Nat) (x : LogRow) : List LogRow → Bool
  | [] => true
  | y :: r => match or (orderedB bef x.i y.i) (apartR x y) with | true => indep1 bef x r | false => false
def indepAll (bef : Array Nat) : List LogRow → Bool
  | [] => true
  | x :: r => match indep1 bef x r with | true => indepAll bef r | false => false
/-- The operations' edges lead back. -/
def backE (i : Nat) : List Edge → Bool
  | [] => true
  | e :: r => match or (!(Region.binds .any e)) (Nat.blt e.on i) with | true => backE i r | false => false
def backB : Nat → List Oper → Bool
  | _, [] => true
  | i, o :: r => match backE i o.after.toList with | true => backB (i + 1) r | false => false
inductive LSpec where
  | tmp (t : Nat) | bx (t j : Nat)
abbrev SL := List (LSpec × LS)
structure Join where
  sh : SL
  ex : Option (Nat × SL)
structure Hints where
  own : List (Nat × Nat × Nat)
  frz : List (Nat × Nat)
  loops : List (Nat × SL)
  joins : List (Nat × Join)
def ownOf : List (Nat × Nat × Nat) → Nat → Nat → Nat
  | [], _, _ => 0
  | (a, b, m) :: r, x, y => match and (Nat.beq a x) (Nat.beq b y) with | true => m | false => ownOf r x y
def frzOf : List (Nat × Nat) → Nat → Nat → Bool
  | [], _, _ => false
  | (a, b) :: r, x, y => match and (Nat.beq a x) (Nat.beq b y) with | true => true | false => frzOf r x y
/-- An operation that is not run: what it would give is undefined (the empty tuple). -/
def undW (o : Oper) : List (Loc × AV Ω) := match o.dst with | some d => [(.tmp d, .tup [])] | none => []
/-- The operations of a region, in the text's order; what each read and wrote is noted. -/
def evOps {R : Type} (T : Tab) (Φ : Env Ω) (H : Hints) (rid rc : Nat) (all : Array Oper) : List Oper → Nat → S Ω → List LogRow → (S Ω → List LogRow → Option R) → Option R
  | [], _, st, log, k => k st log
  | o :: r, i, st, log, k =>
    match o.guard with
    | none => (opP T Φ (ownOf H.own rid i) (frzOf H.frz rid i) rc i o).run st [] fun rs ws => evOps T Φ H rid rc all r (i + 1) (ws ++ st) (⟨i, rs, ws.map (·.1)⟩ :: log) k
    | some (g, want) => match (all[g]?).bind (·.dst) with
      | none => none
      | some gt => match st.get (.tmp gt) with
        | .one (.dat .bool b) => match b with
          | true => match want with
            | true => (opP T Φ (ownOf H.own rid i) (frzOf H.frz rid i) rc i o).run ((.tmp gt, .one (.dat .bool true)) :: st) [.tmp gt] fun rs ws => evOps T Φ H rid rc all r (i + 1) (ws ++ (.tmp gt, .one (.dat .bool true)) :: st) (⟨i, rs, ws.map (·.1)⟩ :: log) k
            | false => evOps T Φ H rid rc all r (i + 1) (undW o ++ (.tmp gt, .one (.dat .bool true)) :: st) (⟨i, [.tmp gt], (undW (Ω := Ω) o).map (·.1)⟩ :: log) k
          | false => match want with
            | false => (opP T Φ (ownOf H.own rid i) (frzOf H.frz rid i) rc i o).run ((.tmp gt, .one (.dat .bool false)) :: st) [.tmp gt] fun rs ws => evOps T Φ H rid rc all r (i + 1) (ws ++ (.tmp gt, .one (.dat .bool false)) :: st) (⟨i, rs, ws.map (·.1)⟩ :: log) k
            | true => evOps T Φ H rid rc all r (i + 1) (undW o ++ (.tmp gt, .one (.dat .bool false)) :: st) (⟨i, [.tmp gt], (undW (Ω := Ω) o).map (·.1)⟩ :: log) k
        -- the guard's own operation did not run: nor does this one
        | .tup [] => evOps T Φ H rid rc all r (i + 1) (undW o ++ st) (⟨i, [.tmp gt], (undW (Ω := Ω) o).map (·.1)⟩ :: log) k
        | _ => none

/-! ### shapes -/
def resolve (st : S Ω) : LSpec → Option Loc
  | .tmp t => some (.tmp t)
  | .bx t j => match st.get (.tmp t) with | .one (.ref id off _) => some (.box id (off + j)) | _ => none
def resolveAll (st : S Ω) : SL → Option (List (Loc × LS))
  | [] => some []
  | (p, s) :: r => (resolve st p).bind fun l => (resolveAll st r).bind fun ls => some ((l, s) :: ls)
def slotLS (s : LS) (v : AV Ω) : Option DL :=
  match s with
  | .dat t => (match and (sizedV v) (bothB (aggV v) (rowB t)) with | true => (packAll t (leavesOf v)).map fun x => ⟨t, x⟩ | false => none)
  | s => leafLS s v
def slots (st : S Ω) : List (Loc × LS) → Option (List DL)
  | [] => some []
  | (l, s) :: r => (slotLS s (st.get l)).bind fun d => (slots st r).bind fun ds => some (d :: ds)
def shTys : List (Loc × LS) → List Ty := List.map fun p => p.2.ty
def packS (st : S Ω) (ls : List (Loc × LS)) : Option (El (outTy (shTys ls))) := (slots st ls).bind (mkOut (shTys ls))
def slotV (id : Id) (s : LS) (d : DL) : AV Ω :=
  match s with
  | .dat t => match cast? d.t t d.x with | some x => avOf (rowB t) (unpack t x) | none => .one .dead
  | .arr e => match cast? d.t (.sl e) d.x with | some x => .one (.arr id e x) | none => .one .dead
  | .omp k v => match cast? d.t (.mp k v) d.x with | some x => .one (.omp id k v x) | none => .one .dead
def unslots (rc : Nat) : Nat → List (Loc × LS) → List DL → S Ω
  | n, (l, s) :: r, d :: ds => (l, slotV (rc, 1, n) s d) :: unslots rc (n + 1) r ds
  | _, _, _ => []
def unpackS (rc : Nat) (ls : List (Loc × LS)) (x : El (outTy (shTys ls))) : S Ω := unslots rc 0 ls (unOut (shTys ls) x)
@[reducible] def LT (hof : Bool) (Ω : Type) (τ : Ty) : Type := match hof with | true => El τ × Ω | false => El τ
def packH (hof : Bool) (st : S Ω) (ls : List (Loc × LS)) : Option (LT hof Ω (outTy (shTys ls))) :=
  match hof with
  | false => packS st ls
  | true => match st.get .om with | .one (.opq s) => (packS st ls).bind fun x => some (x, s) | _ => none
def unpackH (hof : Bool) (rc : Nat) (ls : List (Loc × LS)) (x : LT hof Ω (outTy (shTys ls))) : S Ω :=
  match hof, x with
  | false, x => unpackS rc ls x
  | true, x => (.om, .one (.opq x.2)) :: unpackS rc ls x.1
inductive LO (α γ ρ : Type) where
  | out (x : α) | ex (y : γ) | ret (r : ρ)
def LO.elim {α γ ρ β : Type} (o : LO α γ ρ) (f : α → β) (g : γ → β) (h : ρ → β) : β := match o with | .out x => f x | .ex y => g y | .ret r => h r
def iter {α β : Type} (step : (α → Option β) → α → Option β) : Nat → α → Option β
  | 0, _ => none
  | k + 1, x => step (iter step k) x

/-! ### code -/
def firstR : Code → Option Nat
  | .region i _ _ => some i
  | .seq a b => match firstR a with | some i => some i | none => firstR b
  | .cond _ a b => match firstR a with | some i => some i | none => firstR b
  | .block _ a | .loop a | .scope a => firstR a
  | _ => none
def findH {α : Type} : List (Nat × α) → Nat → Option α
  | [], _ => none
  | (k, s) :: r, n => match Nat.beq k n with | true => some s | false => findH r n
def dsts : Code → List Nat
  | .region _ ops _ => ops.toList.filterMap (·.dst)
  | .seq a b => dsts a ++ dsts b
  | .cond (.tmp t) a b => t :: (dsts a ++ dsts b)
  | .cond _ a b => dsts a ++ dsts b
  | .block _ a | .loop a | .scope a => dsts a
  | _ => []
def kill (c : Code) (st : S Ω) : S Ω := (dsts c).map (fun d => (Loc.tmp d, AV.one .dead)) ++ st
/-- What was written since is kept, or does not count behind. -/
def deadV : AV Ω → Bool | .one .dead => true | _ => false
def sinceB (om : Bool) (ls : List (Loc × LS)) (base : S Ω) : List (Loc × AV Ω) → Bool
  | [] => true
  | p :: r => match or (or (inL p.1 (ls.map (·.1))) (deadV (S.get base p.1))) (and om (locB p.1 .om)) with | true => sinceB om ls base r | false => false
def sinceS (st' st0 : S Ω) : S Ω := st'.take (st'.length - st0.length)
def setC (c : Operand) (b : Bool) (st : S Ω) : S Ω := match c with | .tmp t => (.tmp t, .one (.dat .bool b)) :: st | _ => st
def condV (st : S Ω) (c : Operand) : Option Bool :=
  match c with
  | .tmp t => match st.get (.tmp t) with | .one (.dat .bool b) => some b | _ => none
  | .const (.bool b) => some b
  | _ => none
def ev (T : Tab) (Φ : Env Ω) (H : Hints) (fuel : Nat) (hof : Bool) {ρ : Type} (res : Nat → S Ω → Option ρ) :
    (R : Type) → (c : Code) → (rc : Nat) → (st : S Ω) → (norm : Nat → S Ω → Option R) → (exit : Nat → Nat → S Ω → Option R) → (ret : ρ → Option R) → Option R
  | R, .skip, rc, st, n, x, r => n rc st
  | R, .region i ops draw, rc, st, n, x, r => evOps T Φ H i rc ops ops.toList 0 st [] fun st' log =>
      (match draw with
       | false => n (rc + 1) st'
       | true => match and (backB 0 ops.toList) (indepAll (Region.before ops) log) with | true => n (rc + 1) st' | false => none)
  | R, .seq a b, rc, st, n, x, r =>
    match (firstR b).bind (findH H.joins) with
    | none => ev T Φ H fuel hof res R a rc st (fun rc' st' => ev T Φ H fuel hof res R b rc' st' n x r) x r
    | some J => (resolveAll st J.sh).bind fun sh => (match J.ex with | some (_, s) => resolveAll st s | none => some []).bind fun shx =>
      (ev T Φ H fuel hof res (LO (LT hof Ω (outTy (shTys sh))) (LT hof Ω (outTy (shTys shx))) ρ) a rc st
        (fun _ st' => match sinceB hof sh (kill a st) (sinceS st' st) with | true => (packH hof st' sh).bind fun y => some (.out y) | false => none)
        (fun e _ st' => match J.ex with
          | some (e', _) => (match and (Nat.beq e e') (sinceB hof shx (kill a st) (sinceS st' st)) with | true => (packH hof st' shx).bind fun y => some (.ex y) | false => none)
          | none => none)
        (fun y => some (.ret y))).bind fun o =>
      o.elim (fun y => ev T Φ H fuel hof res R b (rc + 1) (unpackH hof rc sh y ++ kill a st) n x r)
        (fun y => match J.ex with | some (e, _) => x e (rc + 1) (unpackH hof rc shx y ++ kill a st) | none => none) r
  | R, .cond c a b, rc, st, n, x, r => (condV st c).bind fun t => match t with
    | true => ev T Φ H fuel hof res R a rc (setC c true st) n x r
    | false => ev T Φ H fuel hof res R b rc (setC c false st) n x r
  | R, .block i (.loop body), rc, st, n, x, r =>
    match (firstR body).bind (findH H.loops) with
    | none => none
    | some sl => (resolveAll st sl).bind fun sh => (packH hof st sh).bind fun y0 =>
      (iter (fun self y => ev T Φ H fuel hof res (LO (LT hof Ω (outTy (shTys sh))) Unit ρ) body (rc + 1) (unpackH hof rc sh y ++ kill body st)
          (fun _ st' => match sinceB hof sh (kill body st) (sinceS st' (unpackH hof rc sh y ++ kill body st)) with | true => (packH hof st' sh).bind self | false => none)
          (fun e _ st' => match and (Nat.beq e i) (sinceB hof sh (kill body st) (sinceS st' (unpackH hof rc sh y ++ kill body st))) with | true => (packH hof st' sh).bind fun y => some (.out y) | false => none)
          (fun y => some (.ret y))) fuel y0).bind fun o =>
        o.elim (fun y => n (rc + 1) (unpackH hof rc sh y ++ kill body st)) (fun _ => none) r
  | R, .block i a, rc, st, n, x, r => ev T Φ H fuel hof res R a rc st n (fun e rc' st' => match Nat.beq e i with | true => n rc' st' | false => x e rc' st') r
  | R, .exit i, rc, st, n, x, r => x i rc st
  | R, .ret, rc, st, n, x, r => (res rc st).bind r
  | _, _, _, _, _, _, _ => none
termination_by structural _ c => c

/-! ### functions -/
/-- The places of the parameters, with their data. -/
def boxS (id : Id) : Nat → List LS → List (Loc × LS)
  | _, [] => []
  | j, s :: r => (.box id j, s) :: boxS id (j + 1) r
def parL : Nat → List PS → List (Loc × LS)
  | _, [] => []
  | p, .v s :: r => (.tmp p, s) :: parL (p + 1) r
  | p, .mu s :: r => (.tmp p, s) :: parL (p + 1) r
  | p, .bx ls :: r => boxS (0, 0, p) 0 ls ++ parL (p + 1) r
  | p, .ep _ :: r => parL (p + 1) r
  | p, .fn :: r => parL (p + 1) r
def parD : List PS → List DL → List DL
  | [], _ => []
  | .v _ :: r, ds => ds.take 1 ++ parD r (ds.drop 1)
  | .mu _ :: r, ds => ds.take 1 ++ parD r (ds.drop 1)
  | .bx ls :: r, ds => ds.take ls.length ++ parD r (ds.drop ls.length)
  | .ep _ :: r, ds => parD r (ds.drop 1)
  | .fn :: r, ds => parD r ds
def epV (t : Ty) (ds : List DL) : AV Ω := match ds with | d :: _ => (match cast? d.t t d.x with | some x => .one (.eptr t x) | none => .one .dead) | [] => .one .dead
def parR : Nat → List PS → List DL → S Ω
  | _, [], _ => []
  | p, .v _ :: r, ds => parR (p + 1) r (ds.drop 1)
  | p, .mu _ :: r, ds => parR (p + 1) r (ds.drop 1)
  | p, .ep t :: r, ds => (.tmp p, epV t ds) :: parR (p + 1) r (ds.drop 1)
  | p, .bx ls :: r, ds => (.tmp p, .one (.ref (0, 0, p) 0 ls.length)) :: parR (p + 1) r (ds.drop ls.length)
  | p, .fn :: r, ds => (.tmp p, .one .fnv) :: parR (p + 1) r ds
/-- The state at the begin: the parameters. -/
def parS (ps : List PS) (ds : List DL) : S Ω := unslots 0 0 (parL 0 ps) (parD ps ds) ++ parR 0 ps ds
def resQ : RS → PS | .v s => .v s | .bx ls => .bx ls
/-- The parameters that come back. -/
def outQ : Nat → List PS → List (Nat × PS)
  | _, [] => []
  | p, .mu s :: r => (p, .mu s) :: outQ (p + 1) r
  | p, .bx ls :: r => (p, .bx ls) :: outQ (p + 1) r
  | p, .v _ :: r => outQ (p + 1) r
  | p, .ep _ :: r => outQ (p + 1) r
  | p, .fn :: r => outQ (p + 1) r
/-- Where a result is to be had: a temporary, or a variable. -/
inductive Src where
  | op (o : Operand) | cell (t ty : Nat)
def srcG (T : Tab) (s : Src) (f : Operand → AV Ω → Prg Ω) : Prg Ω :=
  match s with
  | .op o => opG o fun v => f o v
  | .cell t ty => Prg.opt (T.get ty) fun ti => .get (.tmp t) fun v => match v with
    | .one (.ref b off _) => getN b off ti.size fun ls => (match loadB ti ls with | true => f (.const (.bool true)) (avOf (isSt ti.kind) ls) | false => .fail)
    | _ => .fail
def argsS (T : Tab) (sc : Bool) (rc i : Nat) : Nat → List PS → List Src → (List Pln → Prg Ω) → Prg Ω
  | _, [], [], f => f []
  | p, q :: qs, o :: os, f => srcG T o fun x v => argP sc rc i p q x v fun x => argsS T sc rc i (p + 1) qs os fun xs => f (x :: xs)
  | _, _, _, _ => .fail
def resS : ResultVar → Src | .tmp t => .op (.tmp t) | .cell t ty => .cell t ty
def resAll (T : Tab) (sg : Sig) (rv : List ResultVar) (rc : Nat) (st : S Ω) : Option (El (outTy sg.outs)) :=
  match Nat.beq rv.length sg.res.length with
  | false => none
  | true => (argsS T false rc 0 0 (sg.res.map resQ ++ (outQ 0 sg.pars).map (·.2)) (rv.map resS ++ (outQ 0 sg.pars).map fun q => Src.op (.tmp q.1)) fun xs =>
        .ite (distL (plnL rc 0 0 xs)) (readPs rc 0 0 xs fun ds => Prg.opt (mkOut sg.outs ds) fun y => .done [(.om, .one (.dat (outTy sg.outs) y))]) .fail).run st [] fun _ ws => match ws with
          | (_, .one (.dat t y)) :: _ => cast? t (outTy sg.outs) y
          | _ => none
/-- A function without a closure among its parameters. -/
def evFn (T : Tab) (Φ : Env Unit) (H : Hints) (fuel : Nat) (sg : Sig) (f : Func) (x : Tup sg.ins) : Option (El (outTy sg.outs)) :=
  match f.body with
  | some c => ev (Ω := Unit) T Φ H fuel false (resAll T sg f.results.toList) (El (outTy sg.outs)) c 1 (parS sg.pars (unTup sg.ins x))
      (fun rc st => resAll T sg f.results.toList rc st) (fun _ _ _ => none) (fun y => some y)
  | none => none
def resAllH (T : Tab) (sg : Sig) (rv : List ResultVar) (rc : Nat) (st : S Ω) : Option (El (outTy sg.outs) × Ω) :=
  (resAll T sg rv rc st).bind fun y => match st.get .om with | .one (.opq s) => some (y, s) | _ => none
/-- A function with a closure among its parameters, the closure at a state. -/
def evFnH (T : Tab) (Φ : Env Ω) (H : Hints) (fuel : Nat) (sg : Sig) (f : Func) (s : Ω) (x : Tup sg.ins) : Option (El (outTy sg.outs) × Ω) :=
  match f.body with
  | some c => ev T Φ H fuel true (resAllH T sg f.results.toList) (El (outTy sg.outs) × Ω) c 1 ((.om, .one (.opq s)) :: parS sg.pars (unTup sg.ins x))
      (fun rc st => resAllH T sg f.results.toList rc st) (fun _ _ _ => none) (fun y => some y)
  | none => none
end
end Go.Proofs.Ytbgefphoochgcaa.FE
