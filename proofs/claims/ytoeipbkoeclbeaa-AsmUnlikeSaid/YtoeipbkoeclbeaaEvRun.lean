/- Own text: how code runs on abstract values. -/
import Derived.Test.YtoeipbkoeclbeaaEvOp
import Derived.Still
namespace Go.Ev

inductive AEnd where
  | ret (v : V)
  | pan (v : V)
inductive Cls where
  | pure | read | new | eff
  /-- a load, a store, at a place to which a temporary of before the region leads -/
  | dload (t : Nat) | dstore (t : Nat)
abbrev Summ := RO → Hp → List V → T (AEnd × Hp)
structure Env where
  ti : Nat → Option TI
  G : Nat
  fn : Nat → Option Func
  sm : Nat → Option Summ
  cls : Nat → Cls
abbrev CallF := RO → Nat → List V → Hp → T (AEnd × Hp)
structure ADef where
  fn : Fn
  cap : List V
  args : List V
structure St where
  tmps : Tr V
  dfr : List ADef
  hp : Hp
inductive X where
  | normal
  | exit (id : Nat)
  | ret
  | pan (v : V)

def setT (tmps : Tr V) (dst : Option Tmp) (v : V) : Tr V := match dst with
  | some d => tmps.set d (some v)
  | none => tmps
def tmpBool (tmps : Tr V) (d : Tmp) (want : Bool) : Option Bool := match tmps.get d with
  | some (.bool b) => some (match b with
    | true => want
    | false => !want)
  | _ => none
/-- Is the operation to be carried out? -/
def guardV (ops : List Oper) (tmps : Tr V) (o : Oper) : Option Bool := match o.guard with
  | none => some true
  | some (j, want) => match ops[j]? with
    | some oj => match oj.dst with
      | some d => tmpBool tmps d want
      | none => none
    | none => none
def dstOk (nt : Nat) : Option Tmp → Bool
  | some d => Nat.ble (d + 1) nt
  | none => true
def guardD (nt : Nat) (ops : List Oper) (tmps : Tr V) (o : Oper) : Option Bool := match dstOk nt o.dst with
  | true => guardV ops tmps o
  | false => none
def isSrc (i : Nat) : List Oper → Bool
  | [] => false
  | o :: r => match o.guard with
    | some (j, _) => Nat.beq j i || isSrc i r
    | none => isSrc i r
/-- A test that is not known, and that operations wait for, parts the ways. -/
def conc (ops : List Oper) (i : Nat) : V → T V
  | .sbool b => match isSrc i ops with
    | true => .br b (.ret (.bool true)) (.ret (.bool false))
    | false => .ret (.sbool b)
  | v => .ret v
def putV (ops : List Oper) (i : Nat) (o : Oper) (st : St) (v : V) (hp : Hp) : T (Option V × St) :=
  (conc ops i v).bind fun v => .ret (none, ⟨setT st.tmps o.dst v, st.dfr, hp⟩)
def afterCall (ops : List Oper) (i : Nat) (o : Oper) (st : St) (r : AEnd × Hp) : T (Option V × St) := match r.1 with
  | .ret v => putV ops i o st v r.2
  | .pan v => .ret (some v, ⟨st.tmps, st.dfr, r.2⟩)
def afterOp (ro : RO) (call : CallF) (ops : List Oper) (i : Nat) (o : Oper) (st : St) (r : Res) : T (Option V × St) := match r with
  | .val v hp => putV ops i o st v hp
  | .skip hp => .ret (none, ⟨setT st.tmps o.dst .any, st.dfr, hp⟩)
  | .enter f args => (call ro f args st.hp).bind (afterCall ops i o st)
  | .defer fn cap args => .ret (none, ⟨setT st.tmps o.dst .any, ⟨fn, cap, args⟩ :: st.dfr, st.hp⟩)
  | .pan v => .ret (some v, st)
/-- What an operation leaves: nothing, or a panic. -/
def step1 (E : Env) (ro : RO) (call : CallF) (nt : Nat) (ops : List Oper) (i : Nat) (o : Oper) (st : St) : T (Option V × St) :=
  match guardD nt ops st.tmps o with
  | none => .fail
  | some false => .ret (none, ⟨setT st.tmps o.dst .any, st.dfr, st.hp⟩)
  | some true => (evOp E.ti E.G ro st.tmps st.hp o).bind (afterOp ro call ops i o st)
def evOps (E : Env) (ro : RO) (call : CallF) (nt : Nat) (ops : List Oper) : Nat → List Oper → St → T (X × St)
  | _, [], st => .ret (.normal, st)
  | i, o :: rest, st => (step1 E ro call nt ops i o st).bind fun r => match r.1 with
    | none => evOps E ro call nt ops (i + 1) rest r.2
    | some v => .ret (.pan v, r.2)

/-! ### a region whose order is open -/
def writes (t : Tmp) (o : Oper) : Bool := match o.dst with
  | some d => Nat.beq d t
  | none => false
def rootOf (ops : List Oper) : Nat → Tmp → Option Tmp
  | 0, _ => none
  | n + 1, t => match ops.find? (writes t) with
    | none => some t
    | some o => match o.op with
      | .fieldAddr _ (.tmp x) _ => rootOf ops n x
      | .nilCheck (.tmp x) => rootOf ops n x
      | .move (.tmp x) => rootOf ops n x
      | _ => none
def callCls : Cls → Cls
  | .dload _ => .eff
  | .dstore _ => .eff
  | c => c
/-- 'd': loads and stores by the block to which they go. -/
def clsOp (E : Env) (d : Bool) (ops : List Oper) (o : Oper) : Cls := match o.op with
  | .move _ | .assign _ | .pick .. | .build .. | .nilCheck _ | .binOp .. | .unOp .. | .fieldAddr .. | .field .. | .indexAddr .. | .index .. | .slice .. | .extract .. | .makeFunc .. | .makeInterface .. => .pure
  | .convert s _ _ => match isSl E.ti s with
    | true => .read
    | false => .pure
  | .load _ (.tmp t) => match d with
    | true => match rootOf ops 20 t with
      | some r => .dload r
      | none => .read
    | false => .read
  | .load .. => .read
  | .store _ (.tmp t) _ => match d with
    | true => match rootOf ops 20 t with
      | some r => .dstore r
      | none => .eff
    | false => .eff
  | .alloc _ | .box .. | .buildSlice .. | .makeSlice .. => .pure
  | .call c => match c.callee with
    | .value (.func f) => callCls (E.cls f)
    | .value _ => .read
    | .builtin .len | .builtin .min | .builtin .max => .pure
    | _ => .eff
  | _ => .eff
def clsList (E : Env) (d : Bool) (ops : List Oper) : List Cls := ops.map (clsOp E d ops)
def reads : Cls → Bool
  | .pure => false
  | _ => true
def isEff : Cls → Bool
  | .eff => true
  | .dstore _ => true
  | _ => false
/-- May the two come in either order? (Their temporaries aside; what d-loads and d-stores touch is asked when the region begins.) -/
def compat : Cls → Cls → Bool
  | .dload _, .dstore _ => true
  | .dstore _, .dload _ => true
  | a, b => !(isEff a && reads b) && !(reads a && isEff b)
def bef (ops : List Oper) : List Nat → List Oper → List Nat
  | acc, [] => acc.reverse
  | acc, o :: r => bef ops ((o.after.toList.foldl (fun s e => match Region.binds .any e with
      | true => s ||| 2 ^ e.on ||| (acc.reverse.getD e.on 0)
      | false => s) 0) :: acc) r
/-- New blocks of an operation, by their numbers. -/
abbrev Side := List (Nat × Blk)
structure RS where
  tmps : Tr V
  hp : Hp
  side : List (Option Side)
def findS : Side → Nat → Option Blk
  | [], _ => none
  | (j, b) :: r, id => match Nat.beq j id with
    | true => some b
    | false => findS r id
def findSs : List (Option Side) → Nat → Nat → Nat → Option Blk
  | [], _, _, _ => none
  | s :: r, i, mask, id => match Nat.testBit mask i, s with
    | true, some l => match findS l id with
      | some b => some b
      | none => findSs r (i + 1) mask id
    | _, _ => findSs r (i + 1) mask id
def addS (m : Tr Blk) : Side → Tr Blk
  | [] => m
  | (j, b) :: r => (addS m r).set j (some b)
def addSs (m : Tr Blk) : List (Option Side) → Nat → Nat → Tr Blk
  | [], _, _ => m
  | s :: r, i, mask => match Nat.testBit mask i, s with
    | true, some l => addS (addSs m r (i + 1) mask) l
    | _, _ => addSs m r (i + 1) mask
def clearS : List (Option Side) → Nat → Nat → List (Option Side)
  | [], _, _ => []
  | s :: r, i, mask => (match Nat.testBit mask i with
    | true => none
    | false => s) :: clearS r (i + 1) mask
def sideOf (m : Tr Blk) (from_ : Nat) : Nat → Option Side
  | 0 => some []
  | n + 1 => match m.get from_, sideOf m (from_ + 1) n with
    | some b, some r => some ((from_, b) :: r)
    | _, _ => none
/-- How many numbers of new blocks each operation has for itself. -/
def strideOf : List Cls → Nat
  | [] => 1
  | .new :: _ => 4096
  | _ :: r => strideOf r
mutual
/-- Does it lead to blocks below n alone? -/
def V.under (n : Nat) : V → Bool
  | .ptr b _ => Nat.ble (b + 1) n
  | .slice b _ _ _ _ _ => Nat.ble (b + 1) n
  | .map b => Nat.ble (b + 1) n
  | .func _ a c => unders n a && unders n c
  | .iface _ v => V.under n v
  | .agg cs => unders n cs
  | .tup cs => unders n cs
  | .any => false
  | _ => true
def unders (n : Nat) : List V → Bool
  | [] => true
  | c :: cs => V.under n c && unders n cs
end
/-- The block to which a temporary leads. -/
def blkOf (t0 : Tr V) (n : Nat) (t : Tmp) : Option Nat := match t0.get t with
  | some (.ptr b _) => match Nat.ble (b + 1) n with
    | true => some b
    | false => none
  | _ => none
def ptrIs (x : V) (b : Nat) : Bool := match x with
  | .ptr b' _ => Nat.beq b' b
  | _ => false
/-- What an operation of the region does besides its value. -/
inductive Eff where
  | keep
  | side (l : Side)
  | heap (hp : Hp) (mask : Nat)
def applyE (j : Nat) (o : Oper) (rs : RS) (v : V) : Eff → RS
  | .keep => ⟨setT rs.tmps o.dst v, rs.hp, rs.side⟩
  | .side l => ⟨setT rs.tmps o.dst v, rs.hp, rs.side.set j (some l)⟩
  | .heap hp mask => ⟨setT rs.tmps o.dst v, ⟨hp.m, hp.nxt, rs.hp.lim⟩, clearS rs.side 0 mask⟩
def viewS (ro : RO) (rs : RS) (mask : Nat) : RO := fun id => match findSs rs.side 0 mask id with
  | some b => some b
  | none => rs.hp.at ro id
def newC (base lim : Nat) (v : V) (hp : Hp) : T (V × Eff) := match Nat.beq hp.nxt base with
  | true => .ret (v, .keep)
  | false => match Nat.ble hp.nxt lim with
    | true => match sideOf hp.m base (hp.nxt - base) with
      | some l => .ret (v, .side l)
      | none => .fail
    | false => .fail
def readC (n : Nat) (v : V) (_ : Hp) : T (V × Eff) := match V.under n v with
  | true => .ret (v, .keep)
  | false => .fail
def effC (mask : Nat) (v : V) (hp : Hp) : T (V × Eff) := .ret (v, .heap hp mask)
def outC (f : V → Hp → T (V × Eff)) (r : AEnd × Hp) : T (V × Eff) := match r.1 with
  | .ret v => f v r.2
  | .pan _ => .fail
def outR (call : CallF) (view : RO) (own : Hp) (f : V → Hp → T (V × Eff)) : Res → T (V × Eff)
  | .val v hp => f v hp
  | .skip hp => f .any hp
  | .enter fid args => (call view fid args own).bind (outC f)
  | _ => .fail
def compOp (E : Env) (call : CallF) (view : RO) (own : Hp) (f : V → Hp → T (V × Eff)) (tmps : Tr V) (o : Oper) : T (V × Eff) :=
  (evOp E.ti E.G view tmps own o).bind (outR call view own f)
def dloadC (E : Env) (tmps : Tr V) (o : Oper) (b : Nat) (heap : RO) : T (V × Eff) := match o.op with
  | .load ty a => match opV E.G tmps a with
    | some x => match ptrIs x b with
      | true => (loadV E.ti heap ty x).bind fun v => .ret (v, .keep)
      | false => .fail
    | none => .fail
  | _ => .fail
def dstoreC (E : Env) (tmps : Tr V) (o : Oper) (b : Nat) (hp : Hp) : T (V × Eff) := match o.op with
  | .store ty a v => match opV E.G tmps a with
    | some x => match ptrIs x b with
      | true => match opV E.G tmps v with
        | some y => (storeV E.ti hp ty x y).bind fun hp => .ret (.any, .heap hp 0)
        | none => .fail
      | false => .fail
    | none => .fail
  | _ => .fail
def areaHp (b0 stride j : Nat) : Hp := ⟨.lf, b0 + j * stride, b0 + j * stride + stride⟩
def compC (E : Env) (ro : RO) (call : CallF) (t0 : Tr V) (b0 stride : Nat) (j : Nat) (o : Oper) (mask : Nat) (c : Cls) (rs : RS) : T (V × Eff) := match c with
  | .eff => compOp E call ro ⟨addSs rs.hp.m rs.side 0 mask, rs.hp.nxt, rs.hp.lim⟩ (effC mask) rs.tmps o
  | .dload t => match blkOf t0 b0 t with
    | some b => dloadC E rs.tmps o b (rs.hp.at ro)
    | none => .fail
  | .dstore t => match blkOf t0 b0 t with
    | some b => dstoreC E rs.tmps o b rs.hp
    | none => .fail
  | .read => compOp E call (viewS ro rs mask) ⟨.lf, rs.hp.nxt, rs.hp.lim⟩ (readC rs.hp.nxt) rs.tmps o
  | .pure => compOp E call ro (areaHp b0 stride j) (newC (b0 + j * stride) (b0 + j * stride + stride)) rs.tmps o
  | .new => compOp E call (viewS ro rs mask) (areaHp b0 stride j) (newC (b0 + j * stride) (b0 + j * stride + stride)) rs.tmps o
def compG (E : Env) (ro : RO) (call : CallF) (nt : Nat) (ops : List Oper) (t0 : Tr V) (b0 stride : Nat) (j : Nat) (o : Oper) (mask : Nat) (c : Cls) (rs : RS) : T (V × Eff) := match guardD nt ops rs.tmps o with
  | none => .fail
  | some false => .ret (.any, .keep)
  | some true => (compC E ro call t0 b0 stride j o mask c rs).bind fun q => (conc ops j q.1).bind fun v => .ret (v, q.2)
def stepO (E : Env) (ro : RO) (call : CallF) (nt : Nat) (ops : List Oper) (t0 : Tr V) (b0 stride : Nat) (j : Nat) (o : Oper) (mask : Nat) (c : Cls) (rs : RS) : T RS := (compG E ro call nt ops t0 b0 stride j o mask c rs).bind fun q => .ret (applyE j o rs q.1 q.2)
def stepR (E : Env) (ro : RO) (call : CallF) (nt : Nat) (ops : List Oper) (masks : List Nat) (cl : List Cls) (t0 : Tr V) (b0 stride : Nat) (j : Nat) (rs : RS) : T RS := match ops[j]? with
  | some o => match masks[j]? with
    | some mask => match cl[j]? with
      | some c => stepO E ro call nt ops t0 b0 stride j o mask c rs
      | none => .fail
    | none => .fail
  | none => .fail
def runR (E : Env) (ro : RO) (call : CallF) (nt : Nat) (ops : List Oper) (masks : List Nat) (cl : List Cls) (t0 : Tr V) (b0 stride : Nat) : Nat → Nat → RS → T RS
  | _, 0, rs => .ret rs
  | j, n + 1, rs => (stepR E ro call nt ops masks cl t0 b0 stride j rs).bind fun rs' => runR E ro call nt ops masks cl t0 b0 stride (j + 1) n rs'
/-- Every later operation waits for this one, or may change places with it. -/
def okFrom (opsA : Array Oper) (masks : List Nat) (k : Nat) (ok : Oper) (ck : Cls) : Nat → List (Oper × Cls) → Bool
  | _, [] => true
  | j, (oj, cj) :: r => (Nat.testBit (masks.getD j 0) k || (ok.apart opsA oj && compat ck cj)) && okFrom opsA masks k ok ck (j + 1) r
def okAll (opsA : Array Oper) (masks : List Nat) : Nat → List (Oper × Cls) → Bool
  | _, [] => true
  | k, (o, c) :: r => (o.after.toList.all fun e => match Region.binds .any e with
      | true => Nat.ble (e.on + 1) k
      | false => true) && okFrom opsA masks k o c (k + 1) r && okAll opsA masks (k + 1) r
def drawOk (E : Env) (d : Bool) (ops : Array Oper) : Bool := Region.noSelect ops && okAll ops (bef ops.toList [] ops.toList) 0 (ops.toList.zip (clsList E d ops.toList))
/-- What is loaded and what is stored by itself lies apart. -/
def apartFrom (t0 : Tr V) (n : Nat) (t : Tmp) : List Cls → Bool
  | [] => true
  | .dstore u :: r => (match blkOf t0 n t, blkOf t0 n u with
    | some a, some b => !Nat.beq a b
    | _, _ => false) && apartFrom t0 n t r
  | _ :: r => apartFrom t0 n t r
def dApart (t0 : Tr V) (n : Nat) (all : List Cls) : List Cls → Bool
  | [] => true
  | .dload t :: r => apartFrom t0 n t all && dApart t0 n all r
  | _ :: r => dApart t0 n all r
def drawStart (st : St) (n stride : Nat) : RS := ⟨st.tmps, ⟨st.hp.m, st.hp.nxt + n * stride, st.hp.lim⟩, List.replicate n none⟩
def drawEnd (st : St) (n stride : Nat) (rs : RS) : T (X × St) := match Nat.ble (st.hp.nxt + n * stride) st.hp.lim with
  | true => .ret (.normal, ⟨rs.tmps, st.dfr, ⟨addSs rs.hp.m rs.side 0 (2 ^ n - 1), rs.hp.nxt, rs.hp.lim⟩⟩)
  | false => .fail
def drawCls (E : Env) (ops : Array Oper) (st : St) : Option Bool := match drawOk E false ops with
  | true => some false
  | false => match drawOk E true ops && dApart st.tmps st.hp.nxt (clsList E true ops.toList) (clsList E true ops.toList) with
    | true => some true
    | false => none
def drawRun (E : Env) (ro : RO) (call : CallF) (nt : Nat) (ops : Array Oper) (st : St) (cl : List Cls) (stride : Nat) : T (X × St) :=
  (runR E ro call nt ops.toList (bef ops.toList [] ops.toList) cl st.tmps st.hp.nxt stride 0 ops.size (drawStart st ops.size stride)).bind (drawEnd st ops.size stride)
def evDraw (E : Env) (ro : RO) (call : CallF) (nt : Nat) (ops : Array Oper) (st : St) : T (X × St) := match drawCls E ops st with
  | some d => drawRun E ro call nt ops st (clsList E d ops.toList) (strideOf (clsList E d ops.toList))
  | none => .fail

/-! ### code -/
def setKnown (tmps : Tr V) (c : Operand) (b : Bool) : Tr V := match c with
  | .tmp t => tmps.set t (some (.bool b))
  | _ => tmps
def St.known (st : St) (c : Operand) (b : Bool) : St := ⟨setKnown st.tmps c b, st.dfr, st.hp⟩
def leaveBlock (id : Nat) (r : X × St) : T (X × St) := match r.1 with
  | .exit id' => match Nat.beq id' id with
    | true => .ret (.normal, r.2)
    | false => .ret (.exit id', r.2)
  | x => .ret (x, r.2)
def thenC (f : St → T (X × St)) (r : X × St) : T (X × St) := match r.1 with
  | .normal => f r.2
  | x => .ret (x, r.2)
def condC (st : St) (c : Operand) (v : Option V) (a b : St → T (X × St)) : T (X × St) := match v with
  | some (.bool true) => a st
  | some (.bool false) => b st
  | some (.sbool t) => .br t (a (st.known c true)) (b (st.known c false))
  | _ => .fail
def regC (E : Env) (ro : RO) (call : CallF) (nt : Nat) (ops : Array Oper) (draw : Bool) (st : St) : T (X × St) := match draw with
  | false => evOps E ro call nt ops.toList 0 ops.toList st
  | true => evDraw E ro call nt ops st
def evC (E : Env) (ro : RO) (call : CallF) (nt : Nat) : Nat → Code → St → T (X × St)
  | 0, _, _ => .fail
  | n + 1, c, st => match c with
    | .skip => .ret (.normal, st)
    | .label _ => .ret (.normal, st)
    | .exit id => .ret (.exit id, st)
    | .ret => .ret (.ret, st)
    | .region _ ops draw => regC E ro call nt ops draw st
    | .seq a b => (evC E ro call nt n a st).bind (thenC (evC E ro call nt n b))
    | .cond c a b => condC st c (opV E.G st.tmps c) (evC E ro call nt n a) (evC E ro call nt n b)
    | .block id b => (evC E ro call nt n b st).bind (leaveBlock id)
    | .scope b => evC E ro call nt n b st
    | .loop b => (evC E ro call nt n b st).bind (thenC (evC E ro call nt n (.loop b)))
    | _ => .fail
def res1 (E : Env) (ro : RO) (st : St) : ResultVar → T V
  | .tmp t => .ret (tmpV st.tmps t)
  | .cell a t => loadV E.ti (st.hp.at ro) t (tmpV st.tmps a)
def resV (E : Env) (ro : RO) (st : St) : List ResultVar → T (List V)
  | [] => .ret []
  | r :: rs => (res1 E ro st r).bind fun v => (resV E ro st rs).bind fun l => .ret (v :: l)
def resOne : List V → V
  | [v] => v
  | l => .tup l
def tmpsOf (m : Tr V) : Nat → List V → Tr V
  | _, [] => m
  | i, v :: vs => tmpsOf (m.set i (some v)) (i + 1) vs
/-- How a body without deferred calls ends. -/
def endF (E : Env) (ro : RO) (fn : Func) (r : X × St) : T (AEnd × Hp) := match r.2.dfr with
  | [] => match r.1 with
    | .normal => (resV E ro r.2 fn.results.toList).bind fun l => .ret (.ret (resOne l), r.2.hp)
    | .ret => (resV E ro r.2 fn.results.toList).bind fun l => .ret (.ret (resOne l), r.2.hp)
    | .pan v => .ret (.pan v, r.2.hp)
    | .exit _ => .fail
  | _ => .fail
def bodyF (E : Env) (N : Nat) (call : CallF) (ro : RO) (fn : Func) (args : List V) (hp : Hp) : T (AEnd × Hp) := match fn.body with
  | some c => match Nat.ble args.length fn.ntmps with
    | true => (evC E ro call fn.ntmps N c ⟨tmpsOf .lf 0 args, [], hp⟩).bind (endF E ro fn)
    | false => .fail
  | none => .fail
/-- A function without deferred calls. -/
def evF (E : Env) (N : Nat) : Nat → CallF
  | 0, _, _, _, _ => .fail
  | n + 1, ro, f, args, hp => match E.sm f with
    | some s => s ro hp args
    | none => match E.fn f with
      | some fn => bodyF E N (evF E N n) ro fn args hp
      | none => .fail
end Go.Ev
