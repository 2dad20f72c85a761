/- Own text: the acts of the processor that reckon; an opcode's act. -/
import Derived.Test.YtmlfmkebljdoiaaGreatDoorCe
namespace Go.Proofs.YtmlfmkebljdoiaaGreatDoor
open Go.Ev Go.Ev.Tr Go.Proofs
/-! ### the acts that reckon -/
noncomputable def arithR (r : Rg) (k : Nat) (v : Int) : Rg := { r with A := alu2 17 [.int .i64 (I.lit (k : Nat)), kb .u8 r.A, kb .u8 v, kb .u8 r.F] 0, F := alu2 17 [.int .i64 (I.lit (k : Nat)), kb .u8 r.A, kb .u8 v, kb .u8 r.F] 1 }
section
variable (op : Nat) (c : Cpu) (d s : Int)
noncomputable def turnA : ActR := ⟨updCur c { c.cur with A := alu2 23 [.int .i64 (I.lit (yM op : Nat)), kb .u8 c.cur.A, kb .u8 c.cur.F] 0, F := alu2 23 [.int .i64 (I.lit (yM op : Nat)), kb .u8 c.cur.A, kb .u8 c.cur.F] 1 }, idleW, true⟩
noncomputable def reckonA : ActR := match Nat.beq (zM op) 6 with
  | true => bif s == 0 then ⟨c, rdW (hlM c.cur), false⟩ else ⟨updCur c (arithR c.cur (yM op) d), idleW, true⟩
  | false => ⟨updCur c (arithR c.cur (yM op) (getR c.cur (zM op))), idleW, true⟩
noncomputable def reckonByteA : ActR := bif s == 0 then ⟨c, rdW c.cur.PC, false⟩ else let c := passM c; ⟨updCur c (arithR c.cur (yM op) d), idleW, true⟩
noncomputable def stepV (r : Rg) (k : Nat) (v : Int) (i : Nat) : Int := alu2 22 [.int .i64 (I.lit (k : Nat)), kb .u8 v, kb .u8 r.F] i
noncomputable def countA : ActR := match Nat.beq (yM op) 6 with
  | true => bif s == 0 then ⟨c, rdW (hlM c.cur), false⟩ else
    bif decide (2 ≤ s) then ⟨c, idleW, true⟩ else ⟨updCur c { c.cur with F := stepV c.cur (zM op - 4) d 1 }, wrW (hlM c.cur) (stepV c.cur (zM op - 4) d 0), false⟩
  | false => ⟨updCur c (setR { c.cur with F := stepV c.cur (zM op - 4) (getR c.cur (yM op)) 1 } (yM op) (stepV c.cur (zM op - 4) (getR c.cur (yM op)) 0)), idleW, true⟩
noncomputable def addPairA : ActR := bif s == 0 then ⟨c, idleW, false⟩ else
  ⟨updCur c { setPairM c.cur 2 false (alu2 146 [kb .u16 (hlM c.cur), kb .u16 (pairM c.cur (pM op) false), kb .u8 c.cur.F] 0) with F := alu2 146 [kb .u16 (hlM c.cur), kb .u16 (pairM c.cur (pM op) false), kb .u8 c.cur.F] 1 }, idleW, true⟩
noncomputable def offsetEnd : ActR :=
  match Nat.beq op 232 with
    | true => ⟨updCur c { c.cur with F := alu2 24 [kb .u16 c.cur.SP, kb .u8 c.low] 1, SP := alu2 24 [kb .u16 c.cur.SP, kb .u8 c.low] 0 }, idleW, true⟩
    | false => ⟨updCur c (setPairM { c.cur with F := alu2 24 [kb .u16 c.cur.SP, kb .u8 c.low] 1 } 2 false (alu2 24 [kb .u16 c.cur.SP, kb .u8 c.low] 0)), idleW, true⟩
noncomputable def offsetA : ActR := bif s == 0 then ⟨c, rdW c.cur.PC, false⟩ else
  bif s == 1 then ⟨{ passM c with low := d }, idleW, false⟩ else
  bif s == 2 then (match Nat.beq op 232 with
    | true => ⟨c, idleW, false⟩
    | false => offsetEnd op c) else offsetEnd op c
/-- The second table: the byte, and F. -/
noncomputable def bitsV (sub : Nat) (r : Rg) (v : Int) : Int := match sub / 64 with
  | 0 => alu2 46 [.int .i64 (I.lit (yM sub : Nat)), kb .u8 v, kb .u8 r.F] 0
  | 1 => v
  | 2 => alu1 164 [.int .i64 (I.lit (yM sub : Nat)), kb .u8 v]
  | _ => alu1 165 [.int .i64 (I.lit (yM sub : Nat)), kb .u8 v]
noncomputable def bitsF (sub : Nat) (r : Rg) (v : Int) : Int := match sub / 64 with
  | 0 => alu2 46 [.int .i64 (I.lit (yM sub : Nat)), kb .u8 v, kb .u8 r.F] 1
  | 1 => alu1 163 [.int .i64 (I.lit (yM sub : Nat)), kb .u8 v, kb .u8 r.F]
  | _ => r.F
noncomputable def secondEnd (sub : Nat) : ActR := match Nat.beq (zM sub) 6 with
  | true => match Nat.beq (sub / 64) 1 with
    | true => ⟨updCur c { c.cur with F := bitsF sub c.cur d }, idleW, true⟩
    | false => ⟨updCur c { c.cur with F := bitsF sub c.cur d }, wrW (hlM c.cur) (bitsV sub c.cur d), false⟩
  | false => match Nat.beq (sub / 64) 1 with
    | true => ⟨updCur c { c.cur with F := bitsF sub c.cur (getR c.cur (zM sub)) }, idleW, true⟩
    | false => ⟨updCur c (setR { c.cur with F := bitsF sub c.cur (getR c.cur (zM sub)) } (zM sub) (bitsV sub c.cur (getR c.cur (zM sub)))), idleW, true⟩
noncomputable def secondA : ActR := bif s == 0 then ⟨c, rdW c.cur.PC, false⟩ else
  bif s == 1 then let c := { passM c with sub := d }; match Nat.beq (zM d.toNat) 6 with
    | true => ⟨c, rdW (hlM c.cur), false⟩
    | false => secondEnd c d d.toNat
  else bif decide (2 < s) then ⟨c, idleW, true⟩ else secondEnd c d c.sub.toNat
/-- An opcode's act. -/
noncomputable def actM : ActR := match rowTab.getD op 0 with
  | 0 => plainA c
  | 1 => loadA op c d s
  | 2 => putA op c s
  | 3 => countPairA op c s
  | 4 => countA op c d s
  | 5 => fillA op c d s
  | 6 => turnA op c
  | 7 => putStackA c d s
  | 8 => addPairA op c s
  | 9 => getA op c d s
  | 10 => stoppingA c s
  | 11 => nearA op c d s
  | 12 => backIfA op c d s
  | 13 => popA op c d s
  | 14 => jumpA op c d s
  | 15 => callA op c d s
  | 16 => pushA op c s
  | 17 => reckonByteA op c d s
  | 18 => resetA op c s
  | 19 => backA c d s
  | 20 => secondA c d s
  | 21 => highByteA op c d s
  | 22 => highPortA op c d s
  | 23 => offsetA op c d s
  | 24 => jumpPairA c
  | 25 => farA op c d s
  | 26 => stackA c s
  | 27 => moveA op c d s
  | _ => reckonA op c d s
noncomputable def actO : Option ActR := match rowTab.getD op 0 with
  | 11 => nearO op c d s
  | 12 => backIfO op c d s
  | 15 => callO op c d s
  | _ => some (actM op c d s)
theorem some_cond {α : Type} (b : Bool) (x y : α) : (bif b then some x else some y) = some (bif b then x else y) := by cases b <;> rfl
theorem actO_eq : actO op c d s = some (actM op c d s) := by
  unfold actO
  split
  · rename_i h; simp only [actM, h, nearO, nearA]
    cases s == 0 <;> simp only [cond_true, cond_false]
    cases s == 1 <;> simp only [cond_true, cond_false]
    cases Nat.beq op 24 <;> simp only [some_cond]
  · rename_i h; simp only [actM, h, backIfO, backIfA]
    cases s == 0 <;> simp only [cond_true, cond_false]
    cases s == 1 <;> simp only [cond_true, cond_false]
    simp only [some_cond]
  · rename_i h; simp only [actM, h, callO, callA]
    cases (two c d s).done <;> simp only [cond_true, cond_false]
    cases s == 2 <;> simp only [cond_true, cond_false]
    cases Nat.beq op 205 <;> simp only [some_cond]
  · rfl
end
end Go.Proofs.YtmlfmkebljdoiaaGreatDoor
