/- Own text: CpuMoves: what is asked on its way. -/
import Derived.Test.YtmlfmkebljdoiaaGreatDoorL4b
namespace Go.Proofs.YtmlfmkebljdoiaaGreatDoor
open Go.Ev Go.Ev.Tr Go.Proofs
set_option maxRecDepth 1000000
noncomputable def c2_4 (sg : Nat) (ms : List Int) : C2 := pre 7 c4 (.seq (.seq (.code (sL (sL (sRn 7 c4)))) (.hook B4 (loopSF ss4 par4 cA4 cB4 sh4 (fin4 sg ms) (nx4 ms)))) (.code (sR (sRn 7 c4))))
theorem c2_4_eq (sg : Nat) (ms : List Int) : Tryz.f4.body = some (c2_4 sg ms).erase := by kernel_rfl
noncomputable def lawM (r : Rg) (ms : List Int) (sg : Nat) (l : Int) : T (AEnd × Hp) := bodyF2 env9 10000 call9 (ro1 sg ms) Tryz.f4 (c2_4 sg ms) [regsA r, mvV sg l] (startHp 3 1000000)
def g4 (r : Rg) : Rg := { bndR r with PC := 512, H := 193 }
def eqR4 (g h : Rg) : Bool := (g.A == h.A && (g.F == h.F && (g.B == h.B && (g.C == h.C && (g.D == h.D && (g.E == h.E && (g.L == h.L && (g.SP == h.SP && (g.IME == h.IME)))))))))
def x4 (g : Rg) : GX := ⟨⟨g.A, 0, 255⟩, ⟨g.F, 0, 240⟩, ⟨g.B, 0, 255⟩, ⟨g.C, 0, 255⟩, ⟨g.D, 0, 255⟩, ⟨g.E, 0, 255⟩, ⟨193, 193, 193⟩, ⟨g.L, 0, 255⟩, ⟨512, 512, 512⟩, g.IME, ⟨0, 0, 0⟩⟩
def p4 (g : Rg) : Nat → Int := fun j => match j with
  | 0 => g.B
  | 1 => g.C
  | 2 => g.D
  | 3 => g.E
  | 4 => 193
  | 5 => g.L
  | 6 => 0
  | _ => g.A
def s4 (g : Rg) (sg : Nat) (l : Int) : R4 := ⟨gxB (x4 g) ⟨g.SP, 0, 65535⟩, pB (p4 g), mvV sg l, false, [], 0, 0, 0⟩
noncomputable def qM (ms : List Int) (g : Rg) (sg : Nat) (l : Int) : QM := resQ ms (s4 g sg l)
def startM (g : Rg) : List Bool := [fOk g, !(eqR4 g g)]
def mZ : Mem := fun _ => 0
def s19i (g : Rg) (q : QM) : R19 := ⟨gxB (x4 g) ⟨g.SP, 0, 65535⟩, pB q.1, .ints .u8 q.2 0 255, pcB 512 (slotV ss4 q.2.length), ofR (bndR g), mZ, pcV, 0, 0⟩
def mMv (q : QM) : Mem := fillF q.2 0 mZ
noncomputable def askM (g : Rg) (q : QM) (m : Mem) : Bool := (fin20 (s20 (ofR (bndR g)) m q.2.length)).isSome
noncomputable def rM (g : Rg) (q : QM) (m : Mem) : R20 := runsR (ofR (bndR g)) m q.2.length
noncomputable def cmpM (g t : Rg) (p : Nat → Int) : List Bool := [t.B == p 0, t.C == p 1, t.D == p 2, t.E == p 3, t.H == 193, t.L == g.L, t.A == p 7, t.F == g.F]
noncomputable def leafM (g : Rg) (r : R20) (p : Nat → Int) : Bool := r.m (49408 + g.L).toNat == p 6
noncomputable def kB (ms : List Int) (sg : Nat) (l : Int) (g : Rg) (q : QM) : List Bool := [fin4 sg ms (s4 g sg l), !q.2.isEmpty] ++ (startM (bndR g) ++ ([(fin19 (s19i g q)).isSome, askM g q (mMv q)] ++ cmpM g (rM g q (mMv q)).c.regs q.1))
noncomputable def kA (ms : List Int) (sg : Nat) (l : Int) (g : Rg) (q : QM) : List Bool := [fin4 sg ms (s4 g sg l), !q.2.isEmpty] ++ (startM (bndR g) ++ ([askM g q mZ] ++ cmpM g (rM g q mZ).c.regs q.1))
theorem lM_B : (fun r ms sg l => lawPath [true, true, true, false, true, true, true, true, true, true, true, true, true, true] (lawM r ms sg l)) = (fun r ms sg l => some (kB ms sg l (g4 r) (qM ms (g4 r) sg l), some (leafM (g4 r) (rM (g4 r) (qM ms (g4 r) sg l) (mMv (qM ms (g4 r) sg l))) (qM ms (g4 r) sg l).1))) := by kernel_rfl
theorem lM_A : (fun r ms sg l => lawPath [true, false, true, false, true, true, true, true, true, true, true, true, true] (lawM r ms sg l)) = (fun r ms sg l => some (kA ms sg l (g4 r) (qM ms (g4 r) sg l), some (leafM (g4 r) (rM (g4 r) (qM ms (g4 r) sg l) mZ) (qM ms (g4 r) sg l).1))) := by kernel_rfl
/-! ### without moves -/
noncomputable def lawN (r : Rg) : T (AEnd × Hp) := call7 ro0 4 [regsA r, .nils] (startHp 2 1000000)
noncomputable def kN (g : Rg) : List Bool := startM (bndR g) ++ ([askM g (p4 g, []) mZ] ++ cmpM g (rM g (p4 g, []) mZ).c.regs (p4 g))
theorem lN : (fun r => lawPath [true, false, true, true, true, true, true, true, true, true, true] (lawN r)) = (fun r => some (kN (g4 r), some (leafM (g4 r) (rM (g4 r) (p4 (g4 r), []) mZ) (p4 (g4 r))))) := by kernel_rfl
/-- A row of none. -/
def mv0 (off : Nat) : V := .slice 2 1 ⟨(off : Int), -1, (off : Int)⟩ (I.lit 0) 0 big63
noncomputable def lawZ (r : Rg) (off : Nat) : T (AEnd × Hp) := call7 ro0 4 [regsA r, mv0 off] (startHp 3 1000000)
theorem lZ : (fun r off => lawPath [true, false, true, true, true, true, true, true, true, true, true] (lawZ r off)) = (fun r _ => some (kN (g4 r), some (leafM (g4 r) (rM (g4 r) (p4 (g4 r), []) mZ) (p4 (g4 r))))) := by kernel_rfl
end Go.Proofs.YtmlfmkebljdoiaaGreatDoor
