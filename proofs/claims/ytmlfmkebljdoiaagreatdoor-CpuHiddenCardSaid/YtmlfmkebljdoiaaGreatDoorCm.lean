/- Own text: the processor as a function: what each cycle does. -/
import Derived.Test.YtmlfmkebljdoiaaGreatDoorEvE
namespace Go.Proofs.YtmlfmkebljdoiaaGreatDoor
open Go.Ev
/-- Registers; a processor. -/
structure Rg where
  A : Int
  F : Int
  B : Int
  C : Int
  D : Int
  E : Int
  H : Int
  L : Int
  SP : Int
  PC : Int
  IME : Bool
  St : Int
structure W3 where
  k : Int
  a : Int
  d : Int
structure Cpu where
  regs : Rg
  cur : Rg
  want : W3
  mid : Bool
  disp : Bool
  op : Int
  sub : Int
  step : Int
  low : Int
  high : Int
  pick : Int
  due : Bool
  twice : Bool
structure ActR where
  c : Cpu
  w : W3
  done : Bool
def rowTab : List Nat := [0, 1, 2, 3, 4, 4, 5, 6, 7, 8, 9, 3, 4, 4, 5, 6, 10, 1, 2, 3, 4, 4, 5, 6, 11, 8, 9, 3, 4, 4, 5, 6, 11, 1, 2, 3, 4, 4, 5, 6, 11, 8, 9, 3, 4, 4, 5, 6, 11, 1, 2, 3, 4, 4, 5, 6, 11, 8, 9, 3, 4, 4, 5, 6, 27, 27, 27, 27, 27, 27, 27, 27, 27, 27, 27, 27, 27, 27, 27, 27, 27, 27, 27, 27, 27, 27, 27, 27, 27, 27, 27, 27, 27, 27, 27, 27, 27, 27, 27, 27, 27, 27, 27, 27, 27, 27, 27, 27, 27, 27, 27, 27, 27, 27, 27, 27, 27, 27, 0, 27, 27, 27, 27, 27, 27, 27, 27, 27, 28, 28, 28, 28, 28, 28, 28, 28, 28, 28, 28, 28, 28, 28, 28, 28, 28, 28, 28, 28, 28, 28, 28, 28, 28, 28, 28, 28, 28, 28, 28, 28, 28, 28, 28, 28, 28, 28, 28, 28, 28, 28, 28, 28, 28, 28, 28, 28, 28, 28, 28, 28, 28, 28, 28, 28, 28, 28, 28, 28, 28, 28, 28, 28, 12, 13, 14, 14, 15, 16, 17, 18, 12, 19, 14, 20, 15, 15, 17, 18, 12, 13, 14, 0, 15, 16, 17, 18, 12, 19, 14, 0, 15, 0, 17, 18, 21, 13, 22, 0, 0, 16, 17, 18, 23, 24, 25, 0, 0, 0, 17, 18, 21, 13, 22, 0, 0, 16, 17, 18, 23, 26, 25, 0, 0, 0, 17, 18]
def kindTab : List Nat := [0, 0, 0, 0, 0, 0, 0, 0, 0, 0, 0, 0, 0, 0, 0, 0, 2, 0, 0, 0, 0, 0, 0, 0, 0, 0, 0, 0, 0, 0, 0, 0, 0, 0, 0, 0, 0, 0, 0, 0, 0, 0, 0, 0, 0, 0, 0, 0, 0, 0, 0, 0, 0, 0, 0, 0, 0, 0, 0, 0, 0, 0, 0, 0, 0, 0, 0, 0, 0, 0, 0, 0, 0, 0, 0, 0, 0, 0, 0, 0, 0, 0, 0, 0, 0, 0, 0, 0, 0, 0, 0, 0, 0, 0, 0, 0, 0, 0, 0, 0, 0, 0, 0, 0, 0, 0, 0, 0, 0, 0, 0, 0, 0, 0, 0, 0, 0, 0, 1, 0, 0, 0, 0, 0, 0, 0, 0, 0, 0, 0, 0, 0, 0, 0, 0, 0, 0, 0, 0, 0, 0, 0, 0, 0, 0, 0, 0, 0, 0, 0, 0, 0, 0, 0, 0, 0, 0, 0, 0, 0, 0, 0, 0, 0, 0, 0, 0, 0, 0, 0, 0, 0, 0, 0, 0, 0, 0, 0, 0, 0, 0, 0, 0, 0, 0, 0, 0, 0, 0, 0, 0, 0, 0, 0, 0, 0, 0, 0, 0, 0, 0, 0, 0, 0, 0, 0, 0, 0, 0, 0, 0, 6, 0, 0, 0, 0, 0, 5, 0, 6, 0, 6, 0, 0, 0, 0, 0, 6, 6, 0, 0, 0, 0, 0, 0, 6, 6, 6, 0, 0, 0, 0, 0, 4, 6, 0, 0, 0, 0, 0, 0, 3, 6, 6, 0, 0]
def idleW : W3 := ⟨0, 0, 0⟩
def rdW (a : Int) : W3 := ⟨1, a, 0⟩
def wrW (a v : Int) : W3 := ⟨2, a, v⟩
def hlM (r : Rg) : Int := orf (r.H * 256) r.L
def wordM (c : Cpu) : Int := orf (c.high * 256) c.low
def passM (c : Cpu) : Cpu := { c with cur := { c.cur with PC := (c.cur.PC + 1) % 65536 } }
def getR (r : Rg) : Nat → Int
  | 0 => r.B
  | 1 => r.C
  | 2 => r.D
  | 3 => r.E
  | 4 => r.H
  | 5 => r.L
  | _ => r.A
def setR (r : Rg) (n : Nat) (v : Int) : Rg := match n with
  | 0 => { r with B := v }
  | 1 => { r with C := v }
  | 2 => { r with D := v }
  | 3 => { r with E := v }
  | 4 => { r with H := v }
  | 5 => { r with L := v }
  | _ => { r with A := v }
def pairM (r : Rg) (n : Nat) (af : Bool) : Int := match n with
  | 0 => orf (r.B * 256) r.C
  | 1 => orf (r.D * 256) r.E
  | 2 => orf (r.H * 256) r.L
  | _ => bif af then orf (r.A * 256) r.F else r.SP
def setPairM (r : Rg) (n : Nat) (af : Bool) (v : Int) : Rg := match n with
  | 0 => { r with B := v / 256, C := v % 256 }
  | 1 => { r with D := v / 256, E := v % 256 }
  | 2 => { r with H := v / 256, L := v % 256 }
  | _ => bif af then { r with A := v / 256, F := andf v 240 } else { r with SP := v }
def yM (op : Nat) : Nat := op / 8 % 8
def zM (op : Nat) : Nat := op % 8
def pM (op : Nat) : Nat := op / 16 % 4
def holdsM (n : Nat) (F : Int) : Bool := match n with
  | 0 => (!(andf F 128 == 0)) == false
  | 1 => (!(andf F 128 == 0)) == true
  | 2 => (!(andf F 16 == 0)) == false
  | _ => (!(andf F 16 == 0)) == true
def updCur (c : Cpu) (r : Rg) : Cpu := { c with cur := r }
def two (c : Cpu) (d s : Int) : ActR :=
  bif s == 0 then ⟨c, rdW c.cur.PC, true⟩ else
  bif s == 1 then let c := { passM c with low := d }; ⟨c, rdW c.cur.PC, true⟩ else
  bif s == 2 then ⟨{ passM c with high := d }, idleW, false⟩ else ⟨c, idleW, false⟩
def backFromM (c : Cpu) (d : Int) (s : Int) : ActR :=
  bif s == 0 then ⟨c, rdW c.cur.SP, false⟩ else
  bif s == 1 then ⟨{ c with low := d }, rdW ((c.cur.SP + 1) % 65536), false⟩ else
  bif s == 2 then ⟨{ c with high := d }, idleW, false⟩ else
  ⟨updCur c { c.cur with PC := wordM c, SP := (c.cur.SP + 2) % 65536 }, idleW, true⟩
/-- 'done' tells whether there is more. -/
def pushingM (c : Cpu) (s v : Int) : ActR :=
  bif s == 0 then ⟨c, idleW, true⟩ else
  bif s == 1 then ⟨c, wrW ((c.cur.SP - 1) % 65536) (v / 256), true⟩ else
  bif s == 2 then ⟨c, wrW ((c.cur.SP - 2) % 65536) (v % 256), true⟩ else
  ⟨updCur c { c.cur with SP := (c.cur.SP - 2) % 65536 }, idleW, false⟩
def placeM (op : Nat) (r : Rg) : Int := match Nat.blt (pM op) 2 with
  | true => pairM r (pM op) false
  | false => hlM r
def afterM (op : Nat) (r : Rg) : Rg := match pM op with
  | 2 => setPairM r 2 false ((hlM r + 1) % 65536)
  | 3 => setPairM r 2 false ((hlM r - 1) % 65536)
  | _ => r
def accessM (op : Nat) (c : Cpu) (a : Int) : W3 := match op / 16 % 2 with
  | 0 => wrW a c.cur.A
  | _ => rdW a
def accessedM (op : Nat) (c : Cpu) (d : Int) : ActR := match op / 16 % 2 with
  | 0 => ⟨c, idleW, true⟩
  | _ => ⟨updCur c { c.cur with A := d }, idleW, true⟩
/-! ### the acts -/
section
variable (op : Nat) (c : Cpu) (d s : Int)
def plainA : ActR := ⟨c, idleW, true⟩
def loadA : ActR := let t := two c d s; bif t.done then ⟨t.c, t.w, false⟩ else ⟨updCur t.c (setPairM t.c.cur (pM op) false (wordM t.c)), idleW, true⟩
def putA : ActR := bif s == 0 then ⟨c, wrW (placeM op c.cur) c.cur.A, false⟩ else ⟨updCur c (afterM op c.cur), idleW, true⟩
def countPairA : ActR := bif s == 0 then ⟨c, idleW, false⟩ else
  ⟨updCur c (setPairM c.cur (pM op) false ((pairM c.cur (pM op) false + (match op / 8 % 2 with
    | 0 => 1
    | _ => -1)) % 65536)), idleW, true⟩
def fillA : ActR := bif s == 0 then ⟨c, rdW c.cur.PC, false⟩ else
  bif s == 1 then let c := passM c; match yM op with
    | 6 => ⟨c, wrW (hlM c.cur) d, false⟩
    | n => ⟨updCur c (setR c.cur n d), idleW, true⟩
  else ⟨c, idleW, true⟩
def putStackA : ActR := let t := two c d s; bif t.done then ⟨t.c, t.w, false⟩ else
  bif s == 2 then ⟨t.c, wrW (wordM t.c) (t.c.cur.SP % 256), false⟩ else
  bif s == 3 then ⟨t.c, wrW ((wordM t.c + 1) % 65536) (t.c.cur.SP / 256), false⟩ else ⟨t.c, idleW, true⟩
def getA : ActR := bif s == 0 then ⟨c, rdW (placeM op c.cur), false⟩ else ⟨updCur c (afterM op { c.cur with A := d }), idleW, true⟩
def stoppingA : ActR := bif s == 0 then ⟨c, rdW c.cur.PC, false⟩ else ⟨passM c, idleW, true⟩
def farBack : ActR := ⟨updCur c { c.cur with PC := (c.cur.PC + IntKind.i8.wrap c.low) % 65536 }, idleW, true⟩
def near0 : ActR := ⟨c, rdW c.cur.PC, false⟩
def near1 : Cpu := { passM c with low := d }
def nearA : ActR := bif s == 0 then near0 c else
  bif s == 1 then (match Nat.beq op 24 with
    | true => ⟨near1 c d, idleW, false⟩
    | false => bif holdsM (yM op - 4) c.cur.F then ⟨near1 c d, idleW, false⟩ else ⟨near1 c d, idleW, true⟩) else farBack c
def nearO : Option ActR := bif s == 0 then some (near0 c) else
  bif s == 1 then (match Nat.beq op 24 with
    | true => some ⟨near1 c d, idleW, false⟩
    | false => bif holdsM (yM op - 4) c.cur.F then some ⟨near1 c d, idleW, false⟩ else some ⟨near1 c d, idleW, true⟩) else some (farBack c)
def backIfA : ActR := bif s == 0 then ⟨c, idleW, false⟩ else
  bif s == 1 then (bif !holdsM (yM op) c.cur.F then ⟨c, idleW, true⟩ else backFromM c d (s - 1)) else backFromM c d (s - 1)
def backIfO : Option ActR := bif s == 0 then some ⟨c, idleW, false⟩ else
  bif s == 1 then (bif !holdsM (yM op) c.cur.F then some ⟨c, idleW, true⟩ else some (backFromM c d (s - 1))) else some (backFromM c d (s - 1))
def popA : ActR := bif s == 0 then ⟨c, rdW c.cur.SP, false⟩ else
  bif s == 1 then ⟨{ c with low := d }, rdW ((c.cur.SP + 1) % 65536), false⟩ else
  ⟨updCur c (setPairM { c.cur with SP := (c.cur.SP + 2) % 65536 } (pM op) true (orf (d * 256) c.low)), idleW, true⟩
def jumpA : ActR := let t := two c d s; bif t.done then ⟨t.c, t.w, false⟩ else
  bif s == 2 then ⟨t.c, idleW, match Nat.beq op 195 with
    | true => false
    | false => !holdsM (yM op) t.c.cur.F⟩ else
  ⟨updCur t.c { t.c.cur with PC := wordM t.c }, idleW, true⟩
def callEnd (c : Cpu) (s : Int) : ActR := let t := pushingM c (s - 2) c.cur.PC; bif t.done then ⟨t.c, t.w, false⟩ else ⟨updCur t.c { t.c.cur with PC := wordM t.c }, idleW, true⟩
def callA : ActR := let t := two c d s; bif t.done then ⟨t.c, t.w, false⟩ else
  bif s == 2 then (match Nat.beq op 205 with
    | true => callEnd t.c s
    | false => bif !holdsM (yM op) t.c.cur.F then ⟨t.c, idleW, true⟩ else callEnd t.c s) else callEnd t.c s
def callO : Option ActR := let t := two c d s; bif t.done then some ⟨t.c, t.w, false⟩ else
  bif s == 2 then (match Nat.beq op 205 with
    | true => some (callEnd t.c s)
    | false => bif !holdsM (yM op) t.c.cur.F then some ⟨t.c, idleW, true⟩ else some (callEnd t.c s)) else some (callEnd t.c s)
def pushA : ActR := let t := pushingM c s (pairM c.cur (pM op) true); bif t.done then ⟨t.c, t.w, false⟩ else ⟨t.c, idleW, true⟩
def resetA : ActR := let t := pushingM c s c.cur.PC; bif t.done then ⟨t.c, t.w, false⟩ else ⟨updCur t.c { t.c.cur with PC := ((8 * yM op : Nat) : Int) }, idleW, true⟩
def backA : ActR := backFromM c d s
def highByteA : ActR := bif s == 0 then ⟨c, rdW c.cur.PC, false⟩ else
  bif s == 1 then let c := passM c; ⟨c, accessM op c (65280 + d), false⟩ else accessedM op c d
def highPortA : ActR := bif s == 0 then ⟨c, accessM op c (65280 + c.cur.C), false⟩ else accessedM op c d
def jumpPairA : ActR := ⟨updCur c { c.cur with PC := hlM c.cur }, idleW, true⟩
def farA : ActR := let t := two c d s; bif t.done then ⟨t.c, t.w, false⟩ else
  bif s == 2 then ⟨t.c, accessM op t.c (wordM t.c), false⟩ else accessedM op t.c d
def stackA : ActR := bif s == 0 then ⟨c, idleW, false⟩ else ⟨updCur c { c.cur with SP := hlM c.cur }, idleW, true⟩
def moveA : ActR := bif s == 0 && Nat.beq (zM op) 6 then ⟨c, rdW (hlM c.cur), false⟩ else
  bif s == 0 && Nat.beq (yM op) 6 then ⟨c, wrW (hlM c.cur) (getR c.cur (zM op)), false⟩ else
  match Nat.beq (zM op) 6 with
    | true => ⟨updCur c (setR c.cur (yM op) d), idleW, true⟩
    | false => match Nat.beq (yM op) 6 with
      | true => ⟨c, idleW, true⟩
      | false => ⟨updCur c (setR c.cur (yM op) (getR c.cur (zM op))), idleW, true⟩
end
end Go.Proofs.YtmlfmkebljdoiaaGreatDoor
