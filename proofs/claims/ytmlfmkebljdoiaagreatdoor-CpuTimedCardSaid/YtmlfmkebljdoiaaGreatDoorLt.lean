/- Own text: CpuTimed: what is asked on its way. -/
import Derived.Test.YtmlfmkebljdoiaaGreatDoorTs
import Derived.Test.YtmlfmkebljdoiaaGreatDoorL7
namespace Go.Proofs.YtmlfmkebljdoiaaGreatDoor
open Go.Ev Go.Ev.Tr Go.Proofs
set_option maxRecDepth 1000000
noncomputable def lawT (b : Bool) (r : Rg) (op b1 b2 : Int) : T (AEnd × Hp) := call8 ro0 14 [i64a op, .bool b, regsA r, u8a b1, u8a b2] (startHp 2 1000000)
def pkK (op : Int) : Int := pickV op (256 : Nat)
def mT1 (g : Rg) (k b1 b2 : Int) : Mem := memOf [(adr g 2, b2), (adr g 1, b1), (pickV g.PC (65536 : Nat) + 0, k)]
noncomputable def rT (g : Rg) (m : Mem) : R20 := runsR (ofR g) m 1
noncomputable def askT (g : Rg) (m : Mem) : Bool := (fin20 (s20 (ofR g) m 1)).isSome
noncomputable def c0 (g : Rg) (k : Int) : List Bool := startP g ++ [k == 203]
noncomputable def lkC (g : Rg) (k : Int) (m : Mem) : List Bool := c0 g k ++ [askT g m, !(errI false k == 0), (rT g m).all == 1, (rT g m).c.regs.St == 3]
noncomputable def lkL (g : Rg) (m : Mem) : Bool := (rT g m).c.regs.PC == (g.PC + 1) % 65536
theorem lawT_203 : (fun r op b1 b2 => lawPath [true, false, true] (lawT false r op b1 b2)) = (fun r op _ _ => some (c0 (bndR r) (pkK op), some true)) := by kernel_rfl
theorem lawT_lock : (fun r op b1 b2 => lawPath [true, false, false, true, true, true, true] (lawT false r op b1 b2)) = (fun r op b1 b2 => some (lkC (bndR r) (pkK op) (mT1 (bndR r) (pkK op) b1 b2), some (lkL (bndR r) (mT1 (bndR r) (pkK op) b1 b2)))) := by kernel_rfl
def six (k : Int) : List Bool := [k == 24, k == 195, k == 201, k == 217, k == 233, k == 205]
noncomputable def cA (g : Rg) (k : Int) (m : Mem) : List Bool := c0 g k ++ [askT g m, !(errI false k == 0), waitsM k g.F]
noncomputable def cN (g : Rg) (c : Int) (m : Mem) : List Bool := [!(IntKind.i64.wrap (4 * (rT g m).all) == c)]
noncomputable def cW (k : Int) (g : Rg) : List Bool := [!(waitsM k g.F)]
def ge192 (k : Int) : Bool := decide (192 ≤ k)
def mod7 (k : Int) : Bool := k % 8 == 7
def ct (k : Int) : Bool := !(cycI false k == takI false k)
noncomputable def lfT (g : Rg) (k : Int) (m : Mem) : Bool := (rT g m).c.regs.PC == (g.PC + bytI false k) % 65536
def dA (w : Bool) : List Bool := [true, false, false, true, false, w, false]
def dJ0 : List Bool := dA false ++ [true, true]
noncomputable def kJ0 (g : Rg) (k : Int) (m : Mem) : List Bool := cA g k m ++ (cN g (takI false k) m ++ ((six k).take 1 ++ cW k g))
theorem lawT_J0 : (fun r op b1 b2 => lawPath dJ0 (lawT false r op b1 b2)) = (fun r op b1 b2 => some (kJ0 (bndR r) (pkK op) (mT1 (bndR r) (pkK op) b1 b2), some (true))) := by kernel_rfl
def dJ1 : List Bool := dA false ++ [false, true, true]
noncomputable def kJ1 (g : Rg) (k : Int) (m : Mem) : List Bool := cA g k m ++ (cN g (takI false k) m ++ ((six k).take 2 ++ cW k g))
theorem lawT_J1 : (fun r op b1 b2 => lawPath dJ1 (lawT false r op b1 b2)) = (fun r op b1 b2 => some (kJ1 (bndR r) (pkK op) (mT1 (bndR r) (pkK op) b1 b2), some (true))) := by kernel_rfl
def dJ2 : List Bool := dA false ++ [false, false, true, true]
noncomputable def kJ2 (g : Rg) (k : Int) (m : Mem) : List Bool := cA g k m ++ (cN g (takI false k) m ++ ((six k).take 3 ++ cW k g))
theorem lawT_J2 : (fun r op b1 b2 => lawPath dJ2 (lawT false r op b1 b2)) = (fun r op b1 b2 => some (kJ2 (bndR r) (pkK op) (mT1 (bndR r) (pkK op) b1 b2), some (true))) := by kernel_rfl
def dJ3 : List Bool := dA false ++ [false, false, false, true, true]
noncomputable def kJ3 (g : Rg) (k : Int) (m : Mem) : List Bool := cA g k m ++ (cN g (takI false k) m ++ ((six k).take 4 ++ cW k g))
theorem lawT_J3 : (fun r op b1 b2 => lawPath dJ3 (lawT false r op b1 b2)) = (fun r op b1 b2 => some (kJ3 (bndR r) (pkK op) (mT1 (bndR r) (pkK op) b1 b2), some (true))) := by kernel_rfl
def dJ4 : List Bool := dA false ++ [false, false, false, false, true, true]
noncomputable def kJ4 (g : Rg) (k : Int) (m : Mem) : List Bool := cA g k m ++ (cN g (takI false k) m ++ ((six k).take 5 ++ cW k g))
theorem lawT_J4 : (fun r op b1 b2 => lawPath dJ4 (lawT false r op b1 b2)) = (fun r op b1 b2 => some (kJ4 (bndR r) (pkK op) (mT1 (bndR r) (pkK op) b1 b2), some (true))) := by kernel_rfl
def dJ5 : List Bool := dA false ++ [false, false, false, false, false, true, true]
noncomputable def kJ5 (g : Rg) (k : Int) (m : Mem) : List Bool := cA g k m ++ (cN g (takI false k) m ++ ((six k).take 6 ++ cW k g))
theorem lawT_J5 : (fun r op b1 b2 => lawPath dJ5 (lawT false r op b1 b2)) = (fun r op b1 b2 => some (kJ5 (bndR r) (pkK op) (mT1 (bndR r) (pkK op) b1 b2), some (true))) := by kernel_rfl
def dJ6 : List Bool := dA false ++ [false, false, false, false, false, false, true, true, true]
noncomputable def kJ6 (g : Rg) (k : Int) (m : Mem) : List Bool := cA g k m ++ (cN g (takI false k) m ++ (six k ++ [ge192 k, mod7 k] ++ cW k g))
theorem lawT_J6 : (fun r op b1 b2 => lawPath dJ6 (lawT false r op b1 b2)) = (fun r op b1 b2 => some (kJ6 (bndR r) (pkK op) (mT1 (bndR r) (pkK op) b1 b2), some (true))) := by kernel_rfl
def dJ7 : List Bool := dA false ++ [false, false, false, false, false, false, false, true, true]
noncomputable def kJ7 (g : Rg) (k : Int) (m : Mem) : List Bool := cA g k m ++ (cN g (takI false k) m ++ (six k ++ [ge192 k, ct k] ++ cW k g))
theorem lawT_J7 : (fun r op b1 b2 => lawPath dJ7 (lawT false r op b1 b2)) = (fun r op b1 b2 => some (kJ7 (bndR r) (pkK op) (mT1 (bndR r) (pkK op) b1 b2), some (true))) := by kernel_rfl
def dJ8 : List Bool := dA false ++ [false, false, false, false, false, false, true, false, true, true]
noncomputable def kJ8 (g : Rg) (k : Int) (m : Mem) : List Bool := cA g k m ++ (cN g (takI false k) m ++ (six k ++ [ge192 k, mod7 k, ct k] ++ cW k g))
theorem lawT_J8 : (fun r op b1 b2 => lawPath dJ8 (lawT false r op b1 b2)) = (fun r op b1 b2 => some (kJ8 (bndR r) (pkK op) (mT1 (bndR r) (pkK op) b1 b2), some (true))) := by kernel_rfl
def dP0 : List Bool := dA false ++ [false, false, false, false, false, false, false, false]
noncomputable def kP0 (g : Rg) (k : Int) (m : Mem) : List Bool := cA g k m ++ (cN g (takI false k) m ++ (six k ++ [ge192 k, ct k]))
theorem lawT_P0 : (fun r op b1 b2 => lawPath dP0 (lawT false r op b1 b2)) = (fun r op b1 b2 => some (kP0 (bndR r) (pkK op) (mT1 (bndR r) (pkK op) b1 b2), some (lfT (bndR r) (pkK op) (mT1 (bndR r) (pkK op) b1 b2)))) := by kernel_rfl
def dP1 : List Bool := dA false ++ [false, false, false, false, false, false, true, false, false]
noncomputable def kP1 (g : Rg) (k : Int) (m : Mem) : List Bool := cA g k m ++ (cN g (takI false k) m ++ (six k ++ [ge192 k, mod7 k, ct k]))
theorem lawT_P1 : (fun r op b1 b2 => lawPath dP1 (lawT false r op b1 b2)) = (fun r op b1 b2 => some (kP1 (bndR r) (pkK op) (mT1 (bndR r) (pkK op) b1 b2), some (lfT (bndR r) (pkK op) (mT1 (bndR r) (pkK op) b1 b2)))) := by kernel_rfl
def dW0 : List Bool := dA true ++ [false, false, false, false, false, false, false, true, false]
noncomputable def kW0 (g : Rg) (k : Int) (m : Mem) : List Bool := cA g k m ++ (cN g (cycI false k) m ++ (six k ++ [ge192 k, ct k] ++ cW k g))
theorem lawT_W0 : (fun r op b1 b2 => lawPath dW0 (lawT false r op b1 b2)) = (fun r op b1 b2 => some (kW0 (bndR r) (pkK op) (mT1 (bndR r) (pkK op) b1 b2), some (lfT (bndR r) (pkK op) (mT1 (bndR r) (pkK op) b1 b2)))) := by kernel_rfl
def dW1 : List Bool := dA true ++ [false, false, false, false, false, false, true, false, true, false]
noncomputable def kW1 (g : Rg) (k : Int) (m : Mem) : List Bool := cA g k m ++ (cN g (cycI false k) m ++ (six k ++ [ge192 k, mod7 k, ct k] ++ cW k g))
theorem lawT_W1 : (fun r op b1 b2 => lawPath dW1 (lawT false r op b1 b2)) = (fun r op b1 b2 => some (kW1 (bndR r) (pkK op) (mT1 (bndR r) (pkK op) b1 b2), some (lfT (bndR r) (pkK op) (mT1 (bndR r) (pkK op) b1 b2)))) := by kernel_rfl
/-! ### the second table -/
def mT2 (g : Rg) (k b2 : Int) : Mem := memOf [(adr g 2, b2), (adr g 1, k), (pickV g.PC (65536 : Nat) + 0, 203)]
noncomputable def cS (g : Rg) (k : Int) (m : Mem) : List Bool := c0 g k ++ [askT g m, !(errI true k == 0), !(IntKind.i64.wrap (4 * (rT g m).all) == takI true k)]
noncomputable def lfS (g : Rg) (k : Int) (m : Mem) : Bool := (rT g m).c.regs.PC == (g.PC + bytI true k) % 65536
def dS (b : Bool) : List Bool := [true, false, b, true, false, false]
theorem lawT_Sfalse : (fun r op b1 b2 => lawPath (dS false) (lawT true r op b1 b2)) = (fun r op _ b2 => some (cS (bndR r) (pkK op) (mT2 (bndR r) (pkK op) b2), some (lfS (bndR r) (pkK op) (mT2 (bndR r) (pkK op) b2)))) := by kernel_rfl
theorem lawT_Strue : (fun r op b1 b2 => lawPath (dS true) (lawT true r op b1 b2)) = (fun r op _ b2 => some (cS (bndR r) (pkK op) (mT2 (bndR r) (pkK op) b2), some (lfS (bndR r) (pkK op) (mT2 (bndR r) (pkK op) b2)))) := by kernel_rfl
end Go.Proofs.YtmlfmkebljdoiaaGreatDoor
