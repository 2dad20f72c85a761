/- Own text: what each operation of the program does to abstract values and the abstract heap. -/
import Derived.Test.YtoeipbkoeclbeaaEvHeap
namespace Go.Ev

structure TI where
  und : TypeDesc
  size : Nat
  bytes : Nat
  zero : Option Value
  /-- may two values of it be nil interfaces with methods -/
  egt : Bool
  stood : Bool

def flatV : Value → Option V
  | .bool b => some (.bool b)
  | .int k n => some (.int k (I.lit n))
  | .string s => some (.str (s.data.toList.map fun b => I.lit b.toNat))
  | .pointer none => some .nilp
  | .slice none 0 0 => some .nils
  | .map none => some .nilm
  | .nilFunc => some .nilf
  | .nilIface => some .nili
  | .func fn ⟨[]⟩ ⟨[]⟩ => some (.func fn [] [])
  | _ => none
def flatVs : List Value → Option (List V)
  | [] => some []
  | v :: vs => match flatV v, flatVs vs with
    | some x, some xs => some (x :: xs)
    | _, _ => none
def constV : Value → Option V
  | .agg ⟨cs⟩ => (flatVs cs).map .agg
  | .iface t (.agg ⟨cs⟩) => (flatVs cs).map fun l => .iface t (.agg l)
  | .iface t v => (flatV v).map (.iface t)
  | v => flatV v
def tmpV (tmps : Tr V) (t : Tmp) : V := match tmps.get t with
  | some v => v
  | none => .any
def gloV (G g : Nat) : Option V := match Nat.ble (g + 1) G with
  | true => some (.ptr g (I.lit 0))
  | false => none
def opV (G : Nat) (tmps : Tr V) : Operand → Option V
  | .tmp t => some (tmpV tmps t)
  | .const v => constV v
  | .global g => gloV G g
  | .func f => some (.func (.func f) [] [])
def opVs (G : Nat) (tmps : Tr V) : List Operand → Option (List V)
  | [] => some []
  | o :: os => match opV G tmps o with
    | some x => match opVs G tmps os with
      | some xs => some (x :: xs)
      | none => none
    | none => none

/-! ### comparisons -/
def eqI (a b : I) : V := match ieq a.lo a.hi && ieq b.lo b.hi with
  | true => .bool (ieq a.lo b.lo)
  | false => match ile (b.hi + 1) a.lo || ile (a.hi + 1) b.lo with
    | true => .bool false
    | false => .sbool (a.n == b.n)
def ltI (a b : I) : V := match ile (a.hi + 1) b.lo with
  | true => .bool true
  | false => match ile b.hi a.lo with
    | true => .bool false
    | false => .sbool (decide (a.n < b.n))
def leI (a b : I) : V := match ile a.hi b.lo with
  | true => .bool true
  | false => match ile (b.hi + 1) a.lo with
    | true => .bool false
    | false => .sbool (decide (a.n ≤ b.n))
def notV : V → Option V
  | .bool b => some (.bool !b)
  | .sbool b => some (.sbool !b)
  | _ => none
def andV : V → V → Option V
  | .bool false, .bool _ => some (.bool false)
  | .bool false, .sbool _ => some (.bool false)
  | .bool true, .bool b => some (.bool b)
  | .bool true, .sbool b => some (.sbool b)
  | .sbool _, .bool false => some (.bool false)
  | .sbool a, .bool true => some (.sbool a)
  | .sbool a, .sbool b => some (.sbool (a && b))
  | _, _ => none
def eqStr : List I → List I → Option V
  | [], [] => some (.bool true)
  | a :: as, b :: bs => match eqI a b with
    | .bool false => some (.bool false)
    | e => match eqStr as bs with
      | some r => andV e r
      | none => none
  | _, _ => some (.bool false)
def eqB : V → V → Option V
  | .bool a, .bool b => some (.bool (a == b))
  | .bool a, .sbool b => some (.sbool (a == b))
  | .sbool a, .bool b => some (.sbool (a == b))
  | .sbool a, .sbool b => some (.sbool (a == b))
  | _, _ => none
def isPtrD : TypeDesc → Bool
  | .pointer _ => true
  | _ => false
def isIfaceD : TypeDesc → Bool
  | .interface _ => true
  | _ => false
def isSliceD : TypeDesc → Bool
  | .slice _ => true
  | _ => false
def isFuncD : TypeDesc → Bool
  | .func .. => true
  | _ => false
def isBoolD : TypeDesc → Bool
  | .bool => true
  | _ => false
def isIntD : TypeDesc → Bool
  | .int _ => true
  | _ => false
def isStrD : TypeDesc → Bool
  | .string => true
  | _ => false
def onlyIf (c : Bool) (v : V) : Option V := match c with
  | true => some v
  | false => none
/-- Two values of one cell. -/
def eq1 (d : TypeDesc) (x y : V) : Option V := match x with
  | .int k a => match y with
    | .int k' b => onlyIf (isIntD d && decide (k = k')) (eqI a b)
    | _ => none
  | .bool _ => match isBoolD d with
    | true => eqB x y
    | false => none
  | .sbool _ => match isBoolD d with
    | true => eqB x y
    | false => none
  | .str a => match y with
    | .str b => match isStrD d with
      | true => eqStr a b
      | false => none
    | _ => none
  | .nilp => match y with
    | .nilp => onlyIf (isPtrD d) (.bool true)
    | .ptr .. => onlyIf (isPtrD d) (.bool false)
    | _ => none
  | .ptr .. => match y with
    | .nilp => onlyIf (isPtrD d) (.bool false)
    | _ => none
  | .nili => match y with
    | .iface .. => onlyIf (isIfaceD d) (.bool false)
    | _ => none
  | .iface t _ => match y with
    | .nili => onlyIf (isIfaceD d) (.bool false)
    | .iface u _ => onlyIf (isIfaceD d && !Nat.beq t u) (.bool false)
    | _ => none
  | .nils => match y with
    | .nils => onlyIf (isSliceD d) (.bool true)
    | .slice .. => onlyIf (isSliceD d) (.bool false)
    | _ => none
  | .slice .. => match y with
    | .nils => onlyIf (isSliceD d) (.bool false)
    | _ => none
  | .nilf => match y with
    | .nilf => onlyIf (isFuncD d) (.bool true)
    | .func .. => onlyIf (isFuncD d) (.bool false)
    | _ => none
  | .func .. => match y with
    | .nilf => onlyIf (isFuncD d) (.bool false)
    | _ => none
  | _ => none
def partV (ti : Nat → Option TI) (t : TypeId) (cs : List V) (off : Nat) : Option V := match ti t with
  | some i => match i.und with
    | .struct _ => some (.agg ((cs.drop off).take i.size))
    | .array _ _ => some (.agg ((cs.drop off).take i.size))
    | _ => cs[off]?
  | none => none
/-- Two structs, whose fields have one cell each. -/
def eqField (ti : Nat → Option TI) (xs ys : List V) (f : Field) : Option V := match ti f.type with
  | some i => match isIntD i.und || isBoolD i.und || isStrD i.und with
    | true => match xs[f.offset]? with
      | some x => match ys[f.offset]? with
        | some y => eq1 i.und x y
        | none => none
      | none => none
    | false => none
  | none => none
def eqFields (ti : Nat → Option TI) (xs ys : List V) : List Field → Option V
  | [] => some (.bool true)
  | f :: fs => match decide (f.name ≠ "_") with
    | true => match eqField ti xs ys f with
      | some e => match eqFields ti xs ys fs with
        | some r => andV e r
        | none => none
      | none => none
    | false => none
def eqAgg (ti : Nat → Option TI) (i : TI) (xs ys : List V) : Option V := match i.und with
  | .struct fs => match i.egt || i.stood with
    | false => eqFields ti xs ys fs.toList
    | true => none
  | _ => none
/-- 'cst': one of the two is written as a constant. -/
def eqV (ti : Nat → Option TI) (t : TypeId) (cst : Bool) (x y : V) : Option V := match ti t with
  | some i => match x with
    | .agg xs => match y with
      | .agg ys => eqAgg ti i xs ys
      | _ => none
    | .nili => match y with
      | .nili => onlyIf (cst && isIfaceD i.und) (.bool true)
      | _ => eq1 i.und x y
    | _ => eq1 i.und x y
  | none => none
def isConstO : Operand → Bool
  | .const _ => true
  | _ => false
def intBin (op : BinOp) (k : IntKind) (a b : I) : T V := match op with
  | .add => .ret (.int k (iadd k a b))
  | .sub => .ret (.int k (isub k a b))
  | .mul => .ret (.int k (imul k a b))
  | .quo => (iquo k a b).bind fun r => .ret (.int k r)
  | .rem => (irem a b).bind fun r => .ret (.int k r)
  | .and => .ret (.int k (iand k a b))
  | .or => .ret (.int k (ior k a b))
  | .xor => .ret (.int k (ixor k a b))
  | .andNot => .ret (.int k (iandNot k a b))
  | .shl => (ishl k a b).bind fun r => .ret (.int k r)
  | .shr => (ishr k a b).bind fun r => .ret (.int k r)
  | .eql => .ret (eqI a b)
  | .neq => T.ofOpt (notV (eqI a b))
  | .lss => .ret (ltI a b)
  | .leq => .ret (leI a b)
  | .gtr => .ret (ltI b a)
  | .geq => .ret (leI b a)
def isShift : BinOp → Bool
  | .shl | .shr => true
  | _ => false
def strBin (op : BinOp) (a b : List I) : T V := match op with
  | .add => match Nat.ble (a.length + b.length) 9223372036854775807 with
    | true => .ret (.str (a ++ b))
    | false => .fail
  | .eql => T.ofOpt (eqStr a b)
  | .neq => T.ofOpt ((eqStr a b).bind notV)
  | _ => .fail
def symBin (op : BinOp) (a b : List UInt8) : T V := match op with
  | .eql => .ret (.sbool (a == b))
  | .neq => .ret (.sbool (!(a == b)))
  | _ => .fail
def eqBin (ti : Nat → Option TI) (op : BinOp) (t : TypeId) (cst : Bool) (x y : V) : T V := match op with
  | .eql => T.ofOpt (eqV ti t cst x y)
  | .neq => T.ofOpt ((eqV ti t cst x y).bind notV)
  | _ => .fail
def binV (ti : Nat → Option TI) (op : BinOp) (t : TypeId) (cst : Bool) (x y : V) : T V := match x with
  | .int k a => match y with
    | .int k' b => match isShift op || decide (k = k') with
      | true => intBin op k a b
      | false => .fail
    | _ => .fail
  | .str a => match y with
    | .str b => strBin op a b
    | .ssym b => symBin op (a.map byteOf) b
    | _ => .fail
  | .ssym a => match y with
    | .str b => symBin op a (b.map byteOf)
    | .ssym b => symBin op a b
    | _ => .fail
  | _ => eqBin ti op t cst x y
def unV (op : UnOp) (x : V) : Option V := match op with
  | .not => notV x
  | .neg => match x with
    | .int k a => some (.int k (isub k (I.lit 0) a))
    | _ => none
  | .xor => match x with
    | .int k a => some (.int k (ixor k (I.lit (if k.signed then -1 else kmax k)) a))
    | _ => none
  | .plus => none
def convI (d : TypeDesc) (a : I) : Option V := match d with
  | .int k => some (.int k (wrapI k a.n a.lo a.hi))
  | .string => match ieq a.lo a.hi && ile 0 a.lo && ile a.lo 127 with
    | true => some (.str [a])
    | false => none
  | _ => none
def convV (ti : Nat → Option TI) (src dst : TypeId) (x : V) : Option V := match ti src with
  | some _ => match ti dst with
    | some d => match x with
      | .int _ a => convI d.und a
      | .str a => onlyIf (isStrD d.und) (.str a)
      | _ => none
    | none => none
  | none => none

/-! ### places -/
def offI (o : I) (k : Nat) : I := match Nat.beq k 0 with
  | true => o
  | false => I.mk' (o.n + k) (o.lo + k) (o.hi + k)
def mulI (i : I) (k : Nat) : I := match Nat.beq k 1 with
  | true => i
  | false => I.mk' (i.n * k) (i.lo * k) (i.hi * k)
def sumI (a b : I) : I := match ieq a.lo 0 && ieq a.hi 0 with
  | true => b
  | false => I.mk' (a.n + b.n) (a.lo + b.lo) (a.hi + b.hi)
def fieldOf (ti : Nat → Option TI) (s : TypeId) (f : Nat) : Option Field := match ti s with
  | some i => match i.und with
    | .struct fs => fs.toList[f]?
    | _ => none
  | none => none
def fieldAddrV (ti : Nat → Option TI) (s : TypeId) (x : V) (f : Nat) : Option V := match x with
  | .ptr b o => match fieldOf ti s f with
    | some fd => match ti fd.type with
      | some j => match Nat.beq j.size 0 with
        | false => some (.ptr b (offI o fd.offset))
        | true => none
      | none => none
    | none => none
  | _ => none
/-- An index that must lie below len. -/
def within (i len : I) : T I := match ile 0 i.lo && ile (i.hi + 1) len.lo with
  | true => .ret i
  | false => .br (decide (0 ≤ i.n ∧ i.n < len.n)) (.ret (I.mk' i.n (imax 0 i.lo) (imin i.hi (len.hi - 1)))) .fail
def arrOf (ti : Nat → Option TI) (t : TypeId) : Option (Nat × TI) := match ti t with
  | some d => match d.und with
    | .array n e => match ti e with
      | some ei => some (n, ei)
      | none => none
    | _ => none
  | none => none
def slOf (ti : Nat → Option TI) (t : TypeId) : Option TI := match ti t with
  | some d => match d.und with
    | .slice e => ti e
    | _ => none
  | none => none
def indexAddrV (ti : Nat → Option TI) (t : TypeId) (x i : V) : T V := match i with
  | .int _ ix => match x with
    | .ptr b o => match arrOf ti t with
      | some (n, ei) => (within ix (I.lit n)).bind fun r => .ret (.ptr b (sumI o (mulI r ei.size)))
      | none => .fail
    | .slice b _ o len _ _ => match slOf ti t with
      | some ei => (within ix len).bind fun r => .ret (.ptr b (sumI o (mulI r ei.size)))
      | none => .fail
    | _ => .fail
  | _ => .fail
def intsOf (k : IntKind) : List V → Option (List I)
  | [] => some []
  | .int k' i :: vs => match decide (k = k') with
    | true => (intsOf k vs).map (i :: ·)
    | false => none
  | _ => none
def loOf : List I → Int
  | [] => 0
  | [i] => i.lo
  | i :: is => imin i.lo (loOf is)
def hiOf : List I → Int
  | [] => 0
  | [i] => i.hi
  | i :: is => imax i.hi (hiOf is)
/-- One of some numbers, by an index that need not be known. -/
def pickI (l : List I) (i : I) : Option I := match ieq i.lo i.hi with
  | true => l[i.lo.toNat]?
  | false => some (I.mk' ((l.map (·.n)).getD i.n.toNat 0) (loOf l) (hiOf l))
def kindOf : TypeDesc → Option IntKind
  | .int k => some k
  | _ => none
def indexAgg (ti : Nat → Option TI) (t : TypeId) (cs : List V) (ix : I) : T V := match ti t with
  | some d => match d.und with
    | .array n e => match Nat.beq cs.length n with
      | true => match ti e with
        | some ei => match kindOf ei.und with
          | some k => match Nat.beq ei.size 1 with
            | true => match intsOf k cs with
              | some l => (within ix (I.lit n)).bind fun r => (T.ofOpt (pickI l r)).bind fun v => .ret (.int k v)
              | none => .fail
            | false => .fail
          | none => (within ix (I.lit n)).bind fun r => match ieq r.lo r.hi with
            | true => T.ofOpt (partV ti e cs (r.lo.toNat * ei.size))
            | false => .fail
        | none => .fail
      | false => .fail
    | _ => .fail
  | none => .fail
def isStrT (ti : Nat → Option TI) (t : TypeId) : Bool := match ti t with
  | some d => isStrD d.und
  | none => false
def indexV (ti : Nat → Option TI) (t : TypeId) (x i : V) : T V := match i with
  | .int _ ix => match x with
    | .agg cs => indexAgg ti t cs ix
    | .str s => match isStrT ti t with
      | true => (within ix (I.lit s.length)).bind fun r => (T.ofOpt (pickI s r)).bind fun v => .ret (.int .u8 v)
      | false => .fail
    | _ => .fail
  | _ => .fail
def fieldV (ti : Nat → Option TI) (t : TypeId) (x : V) (f : Nat) : Option V := match x with
  | .agg cs => match fieldOf ti t f with
    | some fd => partV ti fd.type cs fd.offset
    | none => none
  | _ => none
def leB (a b : I) : T Unit := match ile a.hi b.lo with
  | true => .ret ()
  | false => .br (decide (a.n ≤ b.n)) (.ret ()) .fail
def sliceStr (s : List I) (l h : I) : T V := match ieq l.lo l.hi && ieq h.lo h.hi && ile 0 l.lo && ile l.lo h.lo && ile h.lo s.length with
  | true => .ret (.str ((s.take h.lo.toNat).drop l.lo.toNat))
  | false => .fail
def sliceSl (b es : Nat) (o : I) (clo chi : Int) (l h : I) : T V := match ile 0 l.lo && ile 0 h.lo && ile (l.hi + 1) clo with
  | true => (leB h ⟨clo, clo, clo⟩).bind fun _ => (leB l h).bind fun _ =>
      .ret (.slice b es (sumI o (mulI l es)) (I.mk' (h.n - l.n) (imax 0 (h.lo - l.hi)) (h.hi - l.lo)) (clo - l.hi) (chi - l.lo))
  | false => .fail
def isZero (i : I) : Bool := ieq i.lo 0 && ieq i.hi 0
def orI (o : Option I) (d : I) : I := match o with
  | some i => i
  | none => d
def sliceV (ti : Nat → Option TI) (t : TypeId) (x : V) (l h : Option I) : T V := match x with
  | .str s => match isStrT ti t with
    | true => sliceStr s (orI l (I.lit 0)) (orI h (I.lit s.length))
    | false => .fail
  | .slice b es o len clo chi => match slOf ti t with
    | some ei => match Nat.beq ei.size es with
      | true => sliceSl b es o clo chi (orI l (I.lit 0)) (orI h len)
      | false => .fail
    | none => .fail
  | .nils => match slOf ti t with
    | some _ => match isZero (orI l (I.lit 0)) && isZero (orI h (I.lit 0)) with
      | true => .ret .nils
      | false => .fail
    | none => .fail
  | _ => .fail

/-! ### blocks -/
/-- The bytes of strings. -/
def strsOf : List V → Option (List (List UInt8))
  | [] => some []
  | v :: vs => match v with
    | .str s => match strsOf vs with
      | some r => some (s.map byteOf :: r)
      | none => none
    | .ssym s => match strsOf vs with
      | some r => some (s :: r)
      | none => none
    | _ => none
def loadCell (blk : Blk) (o : I) : T V := match blk with
  | .cells cs | .vec cs => match ieq o.lo o.hi && ile 0 o.lo with
    | true => T.ofOpt cs[o.lo.toNat]?
    | false => match strsOf cs with
      | some ss => (within o (I.lit ss.length)).bind fun r => .ret (.ssym (ss.getD r.n.toNat []))
      | none => .fail
  | .fn k n f lo hi => (within o (I.lit n)).bind fun r => .ret (.int k (I.mk' (f r.n.toNat) lo hi))
  | .ints k xs lo hi => .br (decide (0 ≤ o.n ∧ o.n < xs.length)) (.ret (.int k ⟨xs.getD o.n.toNat 0, lo, hi⟩)) .fail
  | .strs xs => .br (decide (0 ≤ o.n ∧ o.n < xs.length)) (.ret (.ssym (xs.getD o.n.toNat []))) .fail
  | _ => .fail
def loadAgg (blk : Blk) (o : I) (n : Nat) : Option V := match blk with
  | .cells cs | .vec cs => match ieq o.lo o.hi && ile 0 o.lo && Nat.ble (o.lo.toNat + n) cs.length with
    | true => some (.agg ((cs.drop o.lo.toNat).take n))
    | false => none
  | _ => none
def isAggD : TypeDesc → Bool
  | .struct _ => true
  | .array _ _ => true
  | _ => false
def loadV (ti : Nat → Option TI) (heap : Nat → Option Blk) (t : TypeId) (x : V) : T V := match x with
  | .ptr b o => match ti t with
    | some i => match heap b with
      | some blk => match isAggD i.und with
        | true => T.ofOpt (loadAgg blk o i.size)
        | false => loadCell blk o
      | none => .fail
    | none => .fail
  | _ => .fail
def allOne : List V → Bool
  | [] => true
  | v :: vs => v.one && allOne vs
def splice {α : Type} (cs : List α) (o : Nat) (vs : List α) : List α := cs.take o ++ (vs ++ cs.drop (o + vs.length))
def storeB (blk : Blk) (o : I) (vs : List V) : T Blk := match blk with
  | .cells cs => match ieq o.lo o.hi && ile 0 o.lo && Nat.ble (o.lo.toNat + vs.length) cs.length && allOne vs with
    | true => .ret (.cells (splice cs o.lo.toNat vs))
    | false => .fail
  | .vec cs => match ieq o.lo o.hi && ile 0 o.lo && Nat.ble (o.lo.toNat + vs.length) cs.length && allOne vs with
    | true => .ret (.vec (splice cs o.lo.toNat vs))
    | false => .fail
  | .fn k n f lo hi => match vs with
    | [.int k' i] => match decide (k = k') with
      | true => (within o (I.lit n)).bind fun r => .ret (.fn k n (fun j => if j = r.n.toNat then i.n else f j) (imin lo i.lo) (imax hi i.hi))
      | false => .fail
    | _ => .fail
  | _ => .fail
/-- The cells of a value whose size is known. -/
def cellsV : V → Option (List V)
  | .any => none
  | .tup _ => none
  | .agg cs => some cs
  | v => some [v]
def storeV (ti : Nat → Option TI) (hp : Hp) (t : TypeId) (x v : V) : T Hp := match x with
  | .ptr b o => match ti t with
    | some i => match hp.m.get b with
      | some blk => match cellsV v with
        | some vs => match Nat.beq vs.length i.size with
          | true => (storeB blk o vs).bind fun blk' => .ret (hp.put b (some blk'))
          | false => .fail
        | none => .fail
      | none => .fail
    | none => .fail
  | _ => .fail
def newV (hp : Hp) (b : Blk) : Option (Nat × Hp) := match Nat.ble (hp.nxt + 1) hp.lim with
  | true => some (hp.nxt, hp.new b)
  | false => none
def allocV (hp : Hp) (v : V) : T (V × Hp) := match cellsV v with
  | some cs => match allOne cs with
    | true => (T.ofOpt (newV hp (.cells cs))).bind fun r => .ret (.ptr r.1 (I.lit 0), r.2)
    | false => .fail
  | none => .fail
def fillV (place : Nat → Option (Nat × Nat)) (cells : List V) : List (Nat × V) → Option (List V)
  | [] => some cells
  | (i, v) :: rest => match place i with
    | none => none
    | some (off, size) => match cellsV v with
      | none => none
      | some vs => match Nat.beq vs.length size && Nat.ble (off + vs.length) cells.length with
        | true => fillV place (splice cells off vs) rest
        | false => none
def partsV (G : Nat) (tmps : Tr V) : List (Nat × Operand) → Option (List (Nat × V))
  | [] => some []
  | (i, o) :: r => match opV G tmps o, partsV G tmps r with
    | some v, some l => some ((i, v) :: l)
    | _, _ => none
def zeroV (ti : Nat → Option TI) (t : TypeId) : Option V := match ti t with
  | some i => i.zero.bind constV
  | none => none
def fieldPlaces (ti : Nat → Option TI) : List Field → Option (List (Nat × Nat))
  | [] => some []
  | f :: fs => match ti f.type, fieldPlaces ti fs with
    | some i, some l => some ((f.offset, i.size) :: l)
    | _, _ => none
def placeOf (ti : Nat → Option TI) (d : TypeDesc) : Option (Nat → Option (Nat × Nat)) := match d with
  | .struct fs => match fieldPlaces ti fs.toList with
    | some pl => some fun k => pl[k]?
    | none => none
  | .array _ e => match ti e with
    | some ei => some fun k => some (k * ei.size, ei.size)
    | none => none
  | _ => none
def buildV (ti : Nat → Option TI) (t : TypeId) (parts : List (Nat × V)) : Option V := match ti t with
  | some i => match i.zero with
    | some z => match constV z with
      | some (.agg z) => match placeOf ti i.und with
        | some pl => (fillV pl z parts).map .agg
        | none => none
      | _ => none
    | none => none
  | none => none
def repeatL {α : Type} (l : List α) : Nat → List α
  | 0 => []
  | n + 1 => l ++ repeatL l n
/-- The cells of an element that is zero, if each lies by itself. -/
def zeroCellsV (ei : TI) : Option (List V) := match ei.zero with
  | some z => match constV z with
    | some z => match Nat.beq z.cells.length ei.size && allOne z.cells && Nat.ble 1 ei.size with
      | true => some z.cells
      | false => none
    | none => none
  | none => none
def buildSliceV (ti : Nat → Option TI) (hp : Hp) (t : TypeId) (len : Nat) (parts : List (Nat × V)) : T (V × Hp) := match slOf ti t with
  | some ei => match zeroCellsV ei with
    | some z => match Nat.ble (len * ei.size) 16777216 with
      | true => match fillV (fun k => some (k * ei.size, ei.size)) (repeatL z len) parts with
        | some cs => match allOne cs with
          | true => (T.ofOpt (newV hp (.cells cs))).bind fun r => .ret (.slice r.1 ei.size (I.lit 0) (I.lit len) len len, r.2)
          | false => .fail
        | none => .fail
      | false => .fail
    | none => .fail
  | none => .fail
def litI (i : I) : Option Nat := match ieq i.lo i.hi && ile 0 i.lo with
  | true => some i.lo.toNat
  | false => none
/-- A new row of zeros: a great one of numbers as a function. -/
def zeroRow (z : List V) (n : Nat) : Blk := match z with
  | [.int k i] => match isZero i && Nat.ble 100 n with
    | true => .fn k n (fun _ => 0) 0 0
    | false => .cells (repeatL z n)
  | _ => .cells (repeatL z n)
def makeSliceV (ti : Nat → Option TI) (hp : Hp) (t : TypeId) (l c : I) : T (V × Hp) := match slOf ti t with
  | some ei => match zeroCellsV ei with
    | some z => match litI l with
      | some n => match litI c with
        | some m => match Nat.ble n m && Nat.ble (ei.bytes * m) 281474976710656 && Nat.ble m 4611686018427387904 with
          | true => (T.ofOpt (newV hp (zeroRow z m))).bind fun r => .ret (.slice r.1 ei.size (I.lit 0) (I.lit n) m m, r.2)
          | false => .fail
        | none => .fail
      | none => .fail
    | none => .fail
  | none => .fail

/-! ### builtins -/
def blkCells : Blk → Option (List V)
  | .cells cs => some cs
  | .vec cs => some cs
  | _ => none
/-- The cells that a slice shows (or a string's bytes), and how many elements. -/
def shown (heap : Nat → Option Blk) (es : Nat) : V → Option (Nat × List V)
  | .nils => some (0, [])
  | .str s => match Nat.beq es 1 with
    | true => some (s.length, s.map (.int .u8 ·))
    | false => none
  | .slice b es' o len _ _ => match heap b with
    | some blk => match blkCells blk with
      | some cs => match litI o with
        | some o => match litI len with
          | some n => match Nat.beq es es' && Nat.ble (o + n * es) cs.length with
            | true => some (n, (cs.drop o).take (n * es))
            | false => none
          | none => none
        | none => none
      | none => none
    | none => none
  | _ => none
def big63 : Int := 9223372036854775807
/-- append of n elements, their cells 'new', to the slice at b: within its room, or not. -/
def appendIn (hp : Hp) (b es : Nat) (o : I) (clo chi : Int) (at_ n : Nat) (new : List V) : T (V × Hp) := match hp.m.get b with
  | some (.cells cs) => match Nat.ble (at_ + new.length) cs.length with
    | true => .ret (.slice b es o (I.lit n) clo chi, hp.put b (some (.cells (splice cs at_ new))))
    | false => .fail
  | some (.vec cs) => match Nat.ble at_ cs.length with
    | true => .ret (.slice b es o (I.lit n) clo chi, hp.put b (some (.vec (splice cs at_ new))))
    | false => .fail
  | _ => .fail
def appendNew (hp : Hp) (es n : Nat) (all : List V) : T (V × Hp) :=
  (T.ofOpt (newV hp (.vec all))).bind fun r => .ret (.slice r.1 es (I.lit 0) (I.lit n) n big63, r.2)
def appendSl (ro : RO) (hp : Hp) (ei : TI) (b es : Nat) (o len : I) (clo chi : Int) (n : Nat) (new : List V) : T (V × Hp) := match litI o with
  | some o' => match litI len with
    | some m => match Nat.beq es ei.size with
      | true => match ile (m + n : Nat) clo with
        | true => appendIn hp b es o clo chi (o' + m * es) (m + n) new
        | false => match Nat.ble ((2 * (m + n) + 1024) * ei.bytes) 281474976710656 && Nat.ble (m + n) 4611686018427387904 with
          | true => match shown (hp.at ro) es (.slice b es o len clo chi) with
            | some (_, old) => match ile (chi + 1) (m + n : Nat) with
              | true => appendNew hp es (m + n) (old ++ new)
              | false => match hp.m.get b with
                | some _ => match Nat.beq o' 0 && ile chi big63 with
                  | true => appendNew (hp.put b none) es (m + n) (old ++ new)
                  | false => .fail
                | none => .fail
            | none => .fail
          | false => .fail
      | false => .fail
    | none => .fail
  | none => .fail
def isIntT (ti : Nat → Option TI) (t : TypeId) : Bool := match ti t with
  | some i => isIntD i.und
  | none => true
def appendV (ti : Nat → Option TI) (ro : RO) (hp : Hp) (st xt : TypeId) (s x : V) : T (V × Hp) := match slOf ti st with
  | some ei => match isIntT ti xt with
    | false => match zeroCellsV ei with
      | some _ => match shown (hp.at ro) ei.size x with
        | some (n, new) => match Nat.beq new.length (n * ei.size) && allOne new with
          | true => match s with
            | .nils => match Nat.beq n 0 with
              | true => .ret (.nils, hp)
              | false => match Nat.ble (n * ei.bytes) 281474976710656 && Nat.ble n 4611686018427387904 with
                | true => appendNew hp ei.size n new
                | false => .fail
            | .slice b es o len clo chi => appendSl ro hp ei b es o len clo chi n new
            | _ => .fail
          | false => .fail
        | none => .fail
      | none => .fail
    | true => .fail
  | none => .fail
def lenOfV (ti : Nat → Option TI) (d : TypeDesc) (x : V) : Option V := match d with
  | .string => match x with
    | .str s => some (.int .i64 (I.lit s.length))
    | _ => none
  | .array n _ => some (.int .i64 (I.lit n))
  | .slice _ => match x with
    | .nils => some (.int .i64 (I.lit 0))
    | .slice _ _ _ len _ _ => some (.int .i64 len)
    | _ => none
  | .pointer a => match arrOf ti a with
    | some (n, _) => some (.int .i64 (I.lit n))
    | none => none
  | _ => none
def lenV (ti : Nat → Option TI) (t : TypeId) (x : V) : Option V := match ti t with
  | some i => lenOfV ti i.und x
  | none => none
/-- Is it a slice type? -/
def isSl (ti : Nat → Option TI) (t : TypeId) : Bool := match ti t with
  | some i => match i.und with
    | .slice _ => true
    | _ => false
  | none => false
def isByteD : TypeDesc → Bool
  | .int .u8 => true
  | _ => false
def bytesOk : List I → Bool
  | [] => true
  | i :: r => ile 0 i.lo && ile i.hi 255 && bytesOk r
/-- A slice of bytes as a string. -/
def bytesV (ti : Nat → Option TI) (heap : Nat → Option Blk) (src dst : TypeId) (x : V) : Option V := match slOf ti src with
  | some ei => match isByteD ei.und && isStrT ti dst with
    | true => match x with
      | .nils => some (.str [])
      | .slice .. => match shown heap 1 x with
        | some (_, l) => match intsOf .u8 l with
          | some is => onlyIf (bytesOk is) (.str is)
          | none => none
        | none => none
      | _ => none
    | false => none
  | none => none
def min2V (a b : I) : I := ⟨if b.n < a.n then b.n else a.n, imin a.lo b.lo, imin a.hi b.hi⟩
def max2V (a b : I) : I := ⟨if a.n < b.n then b.n else a.n, imax a.lo b.lo, imax a.hi b.hi⟩
inductive Res where
  | val (v : V) (hp : Hp)
  | skip (hp : Hp)
  | enter (f : Nat) (args : List V)
  | defer (fn : Fn) (cap args : List V)
  | pan (v : V)
def ofV (hp : Hp) (o : Option V) : T Res := match o with
  | some v => .ret (.val v hp)
  | none => .fail
def ofT (hp : Hp) (t : T V) : T Res := t.bind fun v => .ret (.val v hp)
def pickV (hp : Hp) (c a b : V) : T Res := match c with
  | .bool true => .ret (.val a hp)
  | .bool false => .ret (.val b hp)
  | .sbool c => match a with
    | .bool a' => match b with
      | .bool b' => .ret (.val (.sbool (bif c then a' else b')) hp)
      | .sbool b' => .ret (.val (.sbool (bif c then a' else b')) hp)
      | _ => .fail
    | .sbool a' => match b with
      | .bool b' => .ret (.val (.sbool (bif c then a' else b')) hp)
      | .sbool b' => .ret (.val (.sbool (bif c then a' else b')) hp)
      | _ => .fail
    | _ => .br c (.ret (.val a hp)) (.ret (.val b hp))
  | _ => .fail
def nilCheckV (hp : Hp) (x : V) : T Res := match x with
  | .ptr b o => .ret (.val (.ptr b o) hp)
  | .func fn a b => match fn with
    | .func f => .ret (.val (.func (.func f) a b) hp)
    | _ => .fail
  | _ => .fail
def ofPairT (t : T (V × Hp)) : T Res := t.bind fun r => .ret (.val r.1 r.2)
def evPick (G : Nat) (tmps : Tr V) (hp : Hp) (c a b : Operand) : T Res := match opV G tmps c with
  | some c => match opV G tmps a with
    | some a => match opV G tmps b with
      | some b => pickV hp c a b
      | none => .fail
    | none => .fail
  | none => .fail
def evAlloc (ti : Nat → Option TI) (hp : Hp) (e : TypeId) : T Res := match zeroV ti e with
  | some z => ofPairT (allocV hp z)
  | none => .fail
def evBox (G : Nat) (tmps : Tr V) (hp : Hp) (x : Operand) : T Res := match opV G tmps x with
  | some v => ofPairT (allocV hp v)
  | none => .fail
def evBuild (ti : Nat → Option TI) (G : Nat) (tmps : Tr V) (hp : Hp) (t : TypeId) (ps : List (Nat × Operand)) : T Res := match partsV G tmps ps with
  | some l => ofV hp (buildV ti t l)
  | none => .fail
def evBuildSlice (ti : Nat → Option TI) (G : Nat) (tmps : Tr V) (hp : Hp) (t : TypeId) (n : Nat) (ps : List (Nat × Operand)) : T Res := match partsV G tmps ps with
  | some l => ofPairT (buildSliceV ti hp t n l)
  | none => .fail
def evLoad (ti : Nat → Option TI) (G : Nat) (ro : RO) (tmps : Tr V) (hp : Hp) (t : TypeId) (a : Operand) : T Res := match opV G tmps a with
  | some x => ofT hp (loadV ti (hp.at ro) t x)
  | none => .fail
def evStore (ti : Nat → Option TI) (G : Nat) (tmps : Tr V) (hp : Hp) (t : TypeId) (a v : Operand) : T Res := match opV G tmps a with
  | some x => match opV G tmps v with
    | some y => (storeV ti hp t x y).bind fun hp' => .ret (.skip hp')
    | none => .fail
  | none => .fail
def ev1 (G : Nat) (tmps : Tr V) (hp : Hp) (f : V → Option V) (x : Operand) : T Res := match opV G tmps x with
  | some a => ofV hp (f a)
  | none => .fail
def ev2 (G : Nat) (tmps : Tr V) (hp : Hp) (f : V → V → T V) (x y : Operand) : T Res := match opV G tmps x with
  | some a => match opV G tmps y with
    | some b => ofT hp (f a b)
    | none => .fail
  | none => .fail
def evConv (ti : Nat → Option TI) (G : Nat) (ro : RO) (tmps : Tr V) (hp : Hp) (s d : TypeId) (x : Operand) : T Res := match isSl ti s with
  | true => ev1 G tmps hp (bytesV ti (hp.at ro) s d) x
  | false => ev1 G tmps hp (convV ti s d) x
def ifaceV (ti : Nat → Option TI) (t : TypeId) (v : V) : Option V := match ti t with
  | some i => onlyIf (!isIfaceD i.und) (.iface t v)
  | none => none
def evFunc (G : Nat) (tmps : Tr V) (hp : Hp) (fn : Fn) (first cap : List Operand) : T Res := match opVs G tmps first with
  | some a => match opVs G tmps cap with
    | some b => .ret (.val (.func fn a b) hp)
    | none => .fail
  | none => .fail
def evMake (ti : Nat → Option TI) (G : Nat) (tmps : Tr V) (hp : Hp) (t : TypeId) (l c : Operand) : T Res := match opV G tmps l with
  | some (.int _ a) => match opV G tmps c with
    | some (.int _ b) => ofPairT (makeSliceV ti hp t a b)
    | _ => .fail
  | _ => .fail
def optI (G : Nat) (tmps : Tr V) : Option Operand → Option (Option I)
  | none => some none
  | some o => match opV G tmps o with
    | some (.int _ i) => some (some i)
    | _ => none
def evSlice (ti : Nat → Option TI) (G : Nat) (tmps : Tr V) (hp : Hp) (t : TypeId) (x : Operand) (lo hi mx : Option Operand) : T Res := match mx with
  | some _ => .fail
  | none => match opV G tmps x with
    | some a => match optI G tmps lo with
      | some l => match optI G tmps hi with
        | some h => ofT hp (sliceV ti t a l h)
        | none => .fail
      | none => .fail
    | none => .fail
def evExtract (G : Nat) (tmps : Tr V) (hp : Hp) (x : Operand) (i : Nat) : T Res := match opV G tmps x with
  | some (.tup vs) => ofV hp vs[i]?
  | _ => .fail
def evCallV (G : Nat) (tmps : Tr V) (f : Operand) (args : List Operand) : T Res := match opV G tmps f with
  | some (.func (.func f) first cap) => match opVs G tmps args with
    | some args => .ret (.enter f (first ++ (args ++ cap)))
    | none => .fail
  | _ => .fail
def minMax (hp : Hp) (f : I → I → I) (x y : V) : T Res := match x with
  | .int k a => match y with
    | .int k' b => match decide (k = k') with
      | true => .ret (.val (.int k (f a b)) hp)
      | false => .fail
    | _ => .fail
  | _ => .fail
def evBuiltin (ti : Nat → Option TI) (ro : RO) (hp : Hp) (b : Builtin) (ts : List TypeId) (args : List V) : T Res := match b with
  | .len => match ts with
    | t :: _ => match args with
      | x :: _ => ofV hp (lenV ti t x)
      | [] => .fail
    | [] => .fail
  | .append => match ts with
    | [st, xt] => match args with
      | [s, x] => ofPairT (appendV ti ro hp st xt s x)
      | _ => .fail
    | _ => .fail
  | .min => match args with
    | [x, y] => minMax hp min2V x y
    | _ => .fail
  | .max => match args with
    | [x, y] => minMax hp max2V x y
    | _ => .fail
  | _ => .fail
def evCall (ti : Nat → Option TI) (G : Nat) (ro : RO) (tmps : Tr V) (hp : Hp) (c : Call) : T Res := match c.callee with
  | .value f => evCallV G tmps f c.args.toList
  | .builtin b => match opVs G tmps c.args.toList with
    | some args => evBuiltin ti ro hp b c.argTypes.toList args
    | none => .fail
  | .invoke _ _ => .fail
def evDefer (G : Nat) (tmps : Tr V) (c : Call) : T Res := match c.callee with
  | .value f => match opV G tmps f with
    | some (.func fn first cap) => match opVs G tmps c.args.toList with
      | some args => .ret (.defer fn cap (first ++ args))
      | none => .fail
    | _ => .fail
  | _ => .fail
/-- One operation. -/
def evOp (ti : Nat → Option TI) (G : Nat) (ro : RO) (tmps : Tr V) (hp : Hp) (o : Oper) : T Res := match o.op with
  | .move x => ev1 G tmps hp some x
  | .assign x => ev1 G tmps hp some x
  | .pick c a b => evPick G tmps hp c a b
  | .alloc e => evAlloc ti hp e
  | .box _ x => evBox G tmps hp x
  | .build t ps => evBuild ti G tmps hp t ps.toList
  | .buildSlice t n ps => evBuildSlice ti G tmps hp t n ps.toList
  | .load t a => evLoad ti G ro tmps hp t a
  | .store t a v => evStore ti G tmps hp t a v
  | .nilCheck x => match opV G tmps x with
    | some v => nilCheckV hp v
    | none => .fail
  | .binOp op t x y _ => ev2 G tmps hp (binV ti op t (isConstO x || isConstO y)) x y
  | .unOp op _ x => ev1 G tmps hp (unV op) x
  | .convert s d x => evConv ti G ro tmps hp s d x
  | .makeInterface t x => ev1 G tmps hp (ifaceV ti t) x
  | .makeFunc fn first cap => evFunc G tmps hp fn first.toList cap.toList
  | .makeSlice t l c => evMake ti G tmps hp t l c
  | .slice t x lo hi mx => evSlice ti G tmps hp t x lo hi mx
  | .fieldAddr s x f => ev1 G tmps hp (fun a => fieldAddrV ti s a f) x
  | .field t x f => ev1 G tmps hp (fun a => fieldV ti t a f) x
  | .indexAddr t x i => ev2 G tmps hp (indexAddrV ti t) x i
  | .index t x i => ev2 G tmps hp (indexV ti t) x i
  | .extract x i => evExtract G tmps hp x i
  | .call c => evCall ti G ro tmps hp c
  | .defer c => evDefer G tmps c
  | _ => .fail
end Go.Ev
