/- Own text: CpuReckons: its instructions, and what is asked on its way. -/
import Derived.Test.YtmlfmkebljdoiaaGreatDoorCp
namespace Go.Proofs.YtmlfmkebljdoiaaGreatDoor
open Go.Ev Go.Ev.Tr Go.Proofs
set_option maxRecDepth 1000000
noncomputable def turnR (g : Rg) (k : Nat) : Rg := { g with A := alu2 23 [.int .i64 (I.lit (k : Nat)), kb .u8 g.A, kb .u8 g.F] 0, F := alu2 23 [.int .i64 (I.lit (k : Nat)), kb .u8 g.A, kb .u8 g.F] 1 }
noncomputable def offV (sp n : Int) (i : Nat) : Int := alu2 24 [kb .u16 sp, kb .u8 n] i
theorem iAluN0 : ∀ b, (fun g m => firstF (z b g) m 198) = (fun g m => some (2, ofR (z b { arithR g 0 (m (pk16 (nxt g.PC))) with PC := nxt (nxt g.PC) }), m)) := by intro b; cases b <;> kernel_rfl
theorem iAluB0 : ∀ b, (fun g m => firstF (z b g) m 128) = (fun g m => some (1, ofR (z b { arithR g 0 g.B with PC := nxt g.PC }), m)) := by intro b; cases b <;> kernel_rfl
theorem iAluM0 : ∀ b, (fun g m => firstF (z b g) m 134) = (fun g m => some (2, ofR (z b { arithR g 0 (m (pk16 (hlM g))) with PC := nxt g.PC }), m)) := by intro b; cases b <;> kernel_rfl
theorem iTurn0 : ∀ b, (fun g m => firstF (z b g) m 7) = (fun g m => some (1, ofR (z b { turnR g 0 with PC := nxt g.PC }), m)) := by intro b; cases b <;> kernel_rfl
theorem iAluN1 : ∀ b, (fun g m => firstF (z b g) m 206) = (fun g m => some (2, ofR (z b { arithR g 1 (m (pk16 (nxt g.PC))) with PC := nxt (nxt g.PC) }), m)) := by intro b; cases b <;> kernel_rfl
theorem iAluB1 : ∀ b, (fun g m => firstF (z b g) m 136) = (fun g m => some (1, ofR (z b { arithR g 1 g.B with PC := nxt g.PC }), m)) := by intro b; cases b <;> kernel_rfl
theorem iAluM1 : ∀ b, (fun g m => firstF (z b g) m 142) = (fun g m => some (2, ofR (z b { arithR g 1 (m (pk16 (hlM g))) with PC := nxt g.PC }), m)) := by intro b; cases b <;> kernel_rfl
theorem iTurn1 : ∀ b, (fun g m => firstF (z b g) m 15) = (fun g m => some (1, ofR (z b { turnR g 1 with PC := nxt g.PC }), m)) := by intro b; cases b <;> kernel_rfl
theorem iAluN2 : ∀ b, (fun g m => firstF (z b g) m 214) = (fun g m => some (2, ofR (z b { arithR g 2 (m (pk16 (nxt g.PC))) with PC := nxt (nxt g.PC) }), m)) := by intro b; cases b <;> kernel_rfl
theorem iAluB2 : ∀ b, (fun g m => firstF (z b g) m 144) = (fun g m => some (1, ofR (z b { arithR g 2 g.B with PC := nxt g.PC }), m)) := by intro b; cases b <;> kernel_rfl
theorem iAluM2 : ∀ b, (fun g m => firstF (z b g) m 150) = (fun g m => some (2, ofR (z b { arithR g 2 (m (pk16 (hlM g))) with PC := nxt g.PC }), m)) := by intro b; cases b <;> kernel_rfl
theorem iTurn2 : ∀ b, (fun g m => firstF (z b g) m 23) = (fun g m => some (1, ofR (z b { turnR g 2 with PC := nxt g.PC }), m)) := by intro b; cases b <;> kernel_rfl
theorem iAluN3 : ∀ b, (fun g m => firstF (z b g) m 222) = (fun g m => some (2, ofR (z b { arithR g 3 (m (pk16 (nxt g.PC))) with PC := nxt (nxt g.PC) }), m)) := by intro b; cases b <;> kernel_rfl
theorem iAluB3 : ∀ b, (fun g m => firstF (z b g) m 152) = (fun g m => some (1, ofR (z b { arithR g 3 g.B with PC := nxt g.PC }), m)) := by intro b; cases b <;> kernel_rfl
theorem iAluM3 : ∀ b, (fun g m => firstF (z b g) m 158) = (fun g m => some (2, ofR (z b { arithR g 3 (m (pk16 (hlM g))) with PC := nxt g.PC }), m)) := by intro b; cases b <;> kernel_rfl
theorem iTurn3 : ∀ b, (fun g m => firstF (z b g) m 31) = (fun g m => some (1, ofR (z b { turnR g 3 with PC := nxt g.PC }), m)) := by intro b; cases b <;> kernel_rfl
theorem iAluN4 : ∀ b, (fun g m => firstF (z b g) m 230) = (fun g m => some (2, ofR (z b { arithR g 4 (m (pk16 (nxt g.PC))) with PC := nxt (nxt g.PC) }), m)) := by intro b; cases b <;> kernel_rfl
theorem iAluB4 : ∀ b, (fun g m => firstF (z b g) m 160) = (fun g m => some (1, ofR (z b { arithR g 4 g.B with PC := nxt g.PC }), m)) := by intro b; cases b <;> kernel_rfl
theorem iAluM4 : ∀ b, (fun g m => firstF (z b g) m 166) = (fun g m => some (2, ofR (z b { arithR g 4 (m (pk16 (hlM g))) with PC := nxt g.PC }), m)) := by intro b; cases b <;> kernel_rfl
theorem iTurn4 : ∀ b, (fun g m => firstF (z b g) m 39) = (fun g m => some (1, ofR (z b { turnR g 4 with PC := nxt g.PC }), m)) := by intro b; cases b <;> kernel_rfl
theorem iAluN5 : ∀ b, (fun g m => firstF (z b g) m 238) = (fun g m => some (2, ofR (z b { arithR g 5 (m (pk16 (nxt g.PC))) with PC := nxt (nxt g.PC) }), m)) := by intro b; cases b <;> kernel_rfl
theorem iAluB5 : ∀ b, (fun g m => firstF (z b g) m 168) = (fun g m => some (1, ofR (z b { arithR g 5 g.B with PC := nxt g.PC }), m)) := by intro b; cases b <;> kernel_rfl
theorem iAluM5 : ∀ b, (fun g m => firstF (z b g) m 174) = (fun g m => some (2, ofR (z b { arithR g 5 (m (pk16 (hlM g))) with PC := nxt g.PC }), m)) := by intro b; cases b <;> kernel_rfl
theorem iTurn5 : ∀ b, (fun g m => firstF (z b g) m 47) = (fun g m => some (1, ofR (z b { turnR g 5 with PC := nxt g.PC }), m)) := by intro b; cases b <;> kernel_rfl
theorem iAluN6 : ∀ b, (fun g m => firstF (z b g) m 246) = (fun g m => some (2, ofR (z b { arithR g 6 (m (pk16 (nxt g.PC))) with PC := nxt (nxt g.PC) }), m)) := by intro b; cases b <;> kernel_rfl
theorem iAluB6 : ∀ b, (fun g m => firstF (z b g) m 176) = (fun g m => some (1, ofR (z b { arithR g 6 g.B with PC := nxt g.PC }), m)) := by intro b; cases b <;> kernel_rfl
theorem iAluM6 : ∀ b, (fun g m => firstF (z b g) m 182) = (fun g m => some (2, ofR (z b { arithR g 6 (m (pk16 (hlM g))) with PC := nxt g.PC }), m)) := by intro b; cases b <;> kernel_rfl
theorem iTurn6 : ∀ b, (fun g m => firstF (z b g) m 55) = (fun g m => some (1, ofR (z b { turnR g 6 with PC := nxt g.PC }), m)) := by intro b; cases b <;> kernel_rfl
theorem iAluN7 : ∀ b, (fun g m => firstF (z b g) m 254) = (fun g m => some (2, ofR (z b { arithR g 7 (m (pk16 (nxt g.PC))) with PC := nxt (nxt g.PC) }), m)) := by intro b; cases b <;> kernel_rfl
theorem iAluB7 : ∀ b, (fun g m => firstF (z b g) m 184) = (fun g m => some (1, ofR (z b { arithR g 7 g.B with PC := nxt g.PC }), m)) := by intro b; cases b <;> kernel_rfl
theorem iAluM7 : ∀ b, (fun g m => firstF (z b g) m 190) = (fun g m => some (2, ofR (z b { arithR g 7 (m (pk16 (hlM g))) with PC := nxt g.PC }), m)) := by intro b; cases b <;> kernel_rfl
theorem iTurn7 : ∀ b, (fun g m => firstF (z b g) m 63) = (fun g m => some (1, ofR (z b { turnR g 7 with PC := nxt g.PC }), m)) := by intro b; cases b <;> kernel_rfl
theorem iStepD0 : ∀ b, (fun g m => firstF (z b g) m 20) = (fun g m => some (1, ofR (z b { g with D := stepV g 0 g.D 0, F := stepV g 0 g.D 1, PC := nxt g.PC }), m)) := by intro b; cases b <;> kernel_rfl
theorem iStepD1 : ∀ b, (fun g m => firstF (z b g) m 21) = (fun g m => some (1, ofR (z b { g with D := stepV g 1 g.D 0, F := stepV g 1 g.D 1, PC := nxt g.PC }), m)) := by intro b; cases b <;> kernel_rfl
theorem i248 : ∀ b, (fun g m => firstF (z b g) m 248) = (fun g m => some (3, ofR (z b { g with H := offV g.SP (m (pk16 (nxt g.PC))) 0 / 256, L := offV g.SP (m (pk16 (nxt g.PC))) 0 % 256, F := offV g.SP (m (pk16 (nxt g.PC))) 1, PC := nxt (nxt g.PC) }), m)) := by intro b; cases b <;> kernel_rfl
theorem i232 : ∀ b, (fun g m => firstF (z b g) m 232) = (fun g m => some (4, ofR (z b { g with SP := offV g.SP (m (pk16 (nxt g.PC))) 0, F := offV g.SP (m (pk16 (nxt g.PC))) 1, PC := nxt (nxt g.PC) }), m)) := by intro b; cases b <;> kernel_rfl
/-- The registers of the law. -/
def g3 (r : Rg) (n : Int) : Rg := { bndR r with B := n, H := 192, PC := 512 }
def eqRh (g h : Rg) : Bool := (g.A == h.A && (g.F == h.F && (g.B == h.B && (g.C == h.C && (g.D == h.D && (g.E == h.E && (g.L == h.L && (g.SP == h.SP && (g.IME == h.IME)))))))))
def at3 (r : Rg) : Int := pickV (49152 + (bndR r).L) (65536 : Nat) + 0
def mem3 (r : Rg) (n : Int) (k : Nat) : Nat → Mem
  | 0 => memOf [(at3 r, n), (513, n), (512, 198 + 8 * k)]
  | 1 => memOf [(at3 r, n), (512, 128 + 8 * k)]
  | _ => memOf [(at3 r, n), (512, 134 + 8 * k)]
noncomputable def s3 (r : Rg) (n : Int) (m : Mem) (j : Int) : R20 := runsR (ofR (bndR (g3 r n))) m j
noncomputable def t3 (r : Rg) (n : Int) (m : Mem) (j : Int) : Rg := (s3 r n m j).c.regs
def start3 (r : Rg) (n : Int) : List Bool := [fOk (bndR (g3 r n)), !(eqRh (bndR (g3 r n)) (bndR (g3 r n)))]
noncomputable def ask3 (r : Rg) (n : Int) (m : Mem) (j : Int) : Bool := (fin20 (s20 (ofR (bndR (g3 r n))) m j)).isSome
noncomputable def part3 (r : Rg) (n : Int) (k i : Nat) : List Bool := start3 r n ++ [ask3 r n (mem3 r n k i) 1,
  !((t3 r n (mem3 r n k i) 1).A == alu2 17 [.int .i64 (I.lit (k : Nat)), kb .u8 (bndR r).A, kb .u8 n, kb .u8 (bndR r).F] 0),
  !((t3 r n (mem3 r n k i) 1).F == alu2 17 [.int .i64 (I.lit (k : Nat)), kb .u8 (bndR r).A, kb .u8 n, kb .u8 (bndR r).F] 1),
  !((t3 r n (mem3 r n k i) 1).B == n), !((t3 r n (mem3 r n k i) 1).L == (bndR r).L), !((t3 r n (mem3 r n k i) 1).SP == (bndR r).SP)]
def mStep (k : Nat) : Mem := memOf [(512, 20 + (k % 2 : Nat))]
def mTurn (k : Nat) : Mem := memOf [(512, 7 + 8 * k)]
def mOff (n : Int) : Mem := memOf [(515, n), (514, 232), (513, n), (512, 248)]
def picks (v : Int) (k : Nat) : List Bool := (List.range (k + 1)).map fun j => v == ((j : Nat) : Int)
noncomputable def conds3 (r : Rg) (op n : Int) (k : Nat) : List Bool := picks (pickV op (8 : Nat)) k ++ (part3 r n k 0 ++ (part3 r n k 1 ++ (part3 r n k 2 ++ (start3 r n ++ (start3 r n ++ (start3 r n ++
  [ask3 r n (mStep k) 1, !((t3 r n (mStep k) 1).D == stepV (bndR r) (k % 2) (bndR r).D 0), !((t3 r n (mStep k) 1).F == stepV (bndR r) (k % 2) (bndR r).D 1),
   ask3 r n (mTurn k) 1, !((t3 r n (mTurn k) 1).A == (turnR (bndR r) k).A), !((t3 r n (mTurn k) 1).F == (turnR (bndR r) k).F),
   ask3 r n (mOff n) 2, 256 * (t3 r n (mOff n) 2).H + (t3 r n (mOff n) 2).L == offV (bndR r).SP n 0, (t3 r n (mOff n) 2).SP == offV (bndR r).SP n 0]))))))
noncomputable def last3 (r : Rg) (n : Int) : Bool := (t3 r n (mOff n) 2).F == offV (bndR r).SP n 1
def dpick (k : Nat) : List Bool := (List.range (k + 1)).map fun j => Nat.beq j k
def dpart : List Bool := [true, false, true, false, false, false, false, false]
def dirs3 (k : Nat) : List Bool := dpick k ++ (dpart ++ (dpart ++ (dpart ++ ([true, false] ++ ([true, false] ++ ([true, false] ++ [true, false, false, true, false, false, true, true, true]))))))
noncomputable def law3 (r : Rg) (op n : Int) : T (AEnd × Hp) := call7 ro0 3 [regsA r, i64a op, u8a n] (startHp 2 1000000)
theorem law3_path0 : (fun r op n => lawPath (dirs3 0) (law3 r op n)) = (fun r op n => some (conds3 r op n 0, some (last3 r n))) := by kernel_rfl
theorem law3_path1 : (fun r op n => lawPath (dirs3 1) (law3 r op n)) = (fun r op n => some (conds3 r op n 1, some (last3 r n))) := by kernel_rfl
theorem law3_path2 : (fun r op n => lawPath (dirs3 2) (law3 r op n)) = (fun r op n => some (conds3 r op n 2, some (last3 r n))) := by kernel_rfl
theorem law3_path3 : (fun r op n => lawPath (dirs3 3) (law3 r op n)) = (fun r op n => some (conds3 r op n 3, some (last3 r n))) := by kernel_rfl
theorem law3_path4 : (fun r op n => lawPath (dirs3 4) (law3 r op n)) = (fun r op n => some (conds3 r op n 4, some (last3 r n))) := by kernel_rfl
theorem law3_path5 : (fun r op n => lawPath (dirs3 5) (law3 r op n)) = (fun r op n => some (conds3 r op n 5, some (last3 r n))) := by kernel_rfl
theorem law3_path6 : (fun r op n => lawPath (dirs3 6) (law3 r op n)) = (fun r op n => some (conds3 r op n 6, some (last3 r n))) := by kernel_rfl
theorem law3_path7 : (fun r op n => lawPath (dirs3 7) (law3 r op n)) = (fun r op n => some (conds3 r op n 7, some (last3 r n))) := by kernel_rfl
end Go.Proofs.YtmlfmkebljdoiaaGreatDoor
