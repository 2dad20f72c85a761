/- Own text: CpuCalls: what is asked on its way. -/
import Derived.Test.YtmlfmkebljdoiaaGreatDoorCp
namespace Go.Proofs.YtmlfmkebljdoiaaGreatDoor
open Go.Ev Go.Ev.Tr Go.Proofs
set_option maxRecDepth 1000000
def eqRc (g h : Rg) : Bool := (g.A == h.A && (g.F == h.F && (g.B == h.B && (g.C == h.C && (g.D == h.D && (g.E == h.E && (g.H == h.H && (g.L == h.L && (g.SP == h.SP && (g.IME == h.IME))))))))))
def eqRd (g h : Rg) : Bool := (g.A == h.A && (g.F == h.F && (g.B == h.B && (g.C == h.C && (g.D == h.D && (g.E == h.E && (g.H == h.H && (g.L == h.L && (g.IME == h.IME)))))))))
def startC (g : Rg) : List Bool := [fOk g, !(eqRc g g)]
def startD (g : Rg) : List Bool := [fOk g, !(eqRd g g)]
def g6 (r : Rg) : Rg := { bndR r with PC := 40000 }
def h6 (r : Rg) : Rg := { bndR r with PC := 40000, SP := 50000 }
def rs (v : Int) : Int := pickV v (8 : Nat)
def cc (v : Int) : Int := pickV v (5 : Nat)
def m6 (op rst : Int) : Mem := memOf [((pickV (8 * rs rst) (65536 : Nat) + 1) % 65536, 201), (pickV (8 * rs rst) (65536 : Nat) + 0, 4), (513, 201), (512, 60), (40003, 199 + 8 * rs rst), (40002, 2), (40001, 0), (40000, op)]
noncomputable def t6 (g : Rg) (m : Mem) (n : Int) : Rg := (runsR (ofR (bndR g)) m n).c.regs
noncomputable def ask6 (g : Rg) (m : Mem) (n : Int) : Bool := (fin20 (s20 (ofR (bndR g)) m n)).isSome
/-- How SP is mended: not, not, it is, it is. -/
def spD : Nat → List Bool
  | 0 => [false, false]
  | 1 => [false, true, false]
  | 2 => [false, true, true]
  | _ => [true]
def spC (s : Int) : Nat → List Bool
  | 0 => [decide (s < 1024), decide (39990 < s)]
  | 1 => [decide (s < 1024), decide (39990 < s), decide (s < 40040)]
  | 2 => [decide (s < 1024), decide (39990 < s), decide (s < 40040)]
  | _ => [decide (s < 1024)]
def spG (r : Rg) : Nat → Rg
  | 0 => g6 r
  | 1 => g6 r
  | _ => h6 r
def spS (g : Rg) : Nat → List Bool
  | 0 => startC (bndR g)
  | 1 => startC (bndR g)
  | _ => startD (bndR g)
/-- The conditions: always; one of Z; one of C. -/
def cnd (c F : Int) : Nat → List Bool
  | 0 => [decide (c < 4), c == 4]
  | 1 => [decide (c < 4), c == 4, decide (1 < c)]
  | _ => [decide (c < 4), c == 4, decide (1 < c)]
def cndD : Nat → List Bool
  | 0 => [false, true]
  | 1 => [true, false, false]
  | _ => [true, false, true]
def hs (c F : Int) : Nat → List Bool
  | 0 => []
  | 1 => [(!(andf F 128 == 0)) == (c % 2 == 1)]
  | _ => [(!(andf F 16 == 0)) == (c % 2 == 1)]
def hsD (h : Bool) : Nat → List Bool
  | 0 => []
  | _ => [h]
def op6 (c : Int) : Nat → Int
  | 0 => 205
  | _ => 196 + 8 * c
def n6 : Bool → Int
  | true => 6
  | false => 4
def a6 (a : Int) : Bool → Int
  | true => (a + 1) % 256
  | false => a
noncomputable def outC (g : Rg) (m : Mem) (h : Bool) : List Bool := [ask6 g m (n6 h), (t6 g m (n6 h)).PC == 40004, (t6 g m (n6 h)).A == a6 g.A h, (t6 g m (n6 h)).B == (g.B + 1) % 256]
noncomputable def conds6 (r : Rg) (cond rst : Int) (s c : Nat) (h : Bool) : List Bool := spC (bndR r).SP s ++ (cnd (cc cond) (bndR r).F c ++ (spS (spG r s) s ++ (hs (cc cond) (bndR r).F c ++ outC (spG r s) (m6 (op6 (cc cond) c) rst) h)))
noncomputable def last6 (r : Rg) (cond rst : Int) (s c : Nat) (h : Bool) : Bool := (t6 (spG r s) (m6 (op6 (cc cond) c) rst) (n6 h)).SP == (spG r s).SP
def dirs6 (s c : Nat) (h : Bool) : List Bool := spD s ++ (cndD c ++ ([true, false] ++ (hsD h c ++ [true, true, true, true])))
noncomputable def law6 (r : Rg) (cond rst : Int) : T (AEnd × Hp) := call6 ro0 6 [regsA r, i64a cond, i64a rst] (startHp 2 1000000)
theorem l6_0_0t : (fun r cond rst => (lawPath (dirs6 0 0 true) (law6 r cond rst))) = (fun r cond rst => some (conds6 r cond rst 0 0 true, some (last6 r cond rst 0 0 true))) := by kernel_rfl
theorem l6_0_1t : (fun r cond rst => (lawPath (dirs6 0 1 true) (law6 r cond rst))) = (fun r cond rst => some (conds6 r cond rst 0 1 true, some (last6 r cond rst 0 1 true))) := by kernel_rfl
theorem l6_0_1f : (fun r cond rst => (lawPath (dirs6 0 1 false) (law6 r cond rst))) = (fun r cond rst => some (conds6 r cond rst 0 1 false, some (last6 r cond rst 0 1 false))) := by kernel_rfl
theorem l6_0_2t : (fun r cond rst => (lawPath (dirs6 0 2 true) (law6 r cond rst))) = (fun r cond rst => some (conds6 r cond rst 0 2 true, some (last6 r cond rst 0 2 true))) := by kernel_rfl
theorem l6_0_2f : (fun r cond rst => (lawPath (dirs6 0 2 false) (law6 r cond rst))) = (fun r cond rst => some (conds6 r cond rst 0 2 false, some (last6 r cond rst 0 2 false))) := by kernel_rfl
theorem l6_1_0t : (fun r cond rst => (lawPath (dirs6 1 0 true) (law6 r cond rst))) = (fun r cond rst => some (conds6 r cond rst 1 0 true, some (last6 r cond rst 1 0 true))) := by kernel_rfl
theorem l6_1_1t : (fun r cond rst => (lawPath (dirs6 1 1 true) (law6 r cond rst))) = (fun r cond rst => some (conds6 r cond rst 1 1 true, some (last6 r cond rst 1 1 true))) := by kernel_rfl
theorem l6_1_1f : (fun r cond rst => (lawPath (dirs6 1 1 false) (law6 r cond rst))) = (fun r cond rst => some (conds6 r cond rst 1 1 false, some (last6 r cond rst 1 1 false))) := by kernel_rfl
theorem l6_1_2t : (fun r cond rst => (lawPath (dirs6 1 2 true) (law6 r cond rst))) = (fun r cond rst => some (conds6 r cond rst 1 2 true, some (last6 r cond rst 1 2 true))) := by kernel_rfl
theorem l6_1_2f : (fun r cond rst => (lawPath (dirs6 1 2 false) (law6 r cond rst))) = (fun r cond rst => some (conds6 r cond rst 1 2 false, some (last6 r cond rst 1 2 false))) := by kernel_rfl
theorem l6_2_0t : (fun r cond rst => (lawPath (dirs6 2 0 true) (law6 r cond rst))) = (fun r cond rst => some (conds6 r cond rst 2 0 true, some (last6 r cond rst 2 0 true))) := by kernel_rfl
theorem l6_2_1t : (fun r cond rst => (lawPath (dirs6 2 1 true) (law6 r cond rst))) = (fun r cond rst => some (conds6 r cond rst 2 1 true, some (last6 r cond rst 2 1 true))) := by kernel_rfl
theorem l6_2_1f : (fun r cond rst => (lawPath (dirs6 2 1 false) (law6 r cond rst))) = (fun r cond rst => some (conds6 r cond rst 2 1 false, some (last6 r cond rst 2 1 false))) := by kernel_rfl
theorem l6_2_2t : (fun r cond rst => (lawPath (dirs6 2 2 true) (law6 r cond rst))) = (fun r cond rst => some (conds6 r cond rst 2 2 true, some (last6 r cond rst 2 2 true))) := by kernel_rfl
theorem l6_2_2f : (fun r cond rst => (lawPath (dirs6 2 2 false) (law6 r cond rst))) = (fun r cond rst => some (conds6 r cond rst 2 2 false, some (last6 r cond rst 2 2 false))) := by kernel_rfl
theorem l6_3_0t : (fun r cond rst => (lawPath (dirs6 3 0 true) (law6 r cond rst))) = (fun r cond rst => some (conds6 r cond rst 3 0 true, some (last6 r cond rst 3 0 true))) := by kernel_rfl
theorem l6_3_1t : (fun r cond rst => (lawPath (dirs6 3 1 true) (law6 r cond rst))) = (fun r cond rst => some (conds6 r cond rst 3 1 true, some (last6 r cond rst 3 1 true))) := by kernel_rfl
theorem l6_3_1f : (fun r cond rst => (lawPath (dirs6 3 1 false) (law6 r cond rst))) = (fun r cond rst => some (conds6 r cond rst 3 1 false, some (last6 r cond rst 3 1 false))) := by kernel_rfl
theorem l6_3_2t : (fun r cond rst => (lawPath (dirs6 3 2 true) (law6 r cond rst))) = (fun r cond rst => some (conds6 r cond rst 3 2 true, some (last6 r cond rst 3 2 true))) := by kernel_rfl
theorem l6_3_2f : (fun r cond rst => (lawPath (dirs6 3 2 false) (law6 r cond rst))) = (fun r cond rst => some (conds6 r cond rst 3 2 false, some (last6 r cond rst 3 2 false))) := by kernel_rfl
end Go.Proofs.YtmlfmkebljdoiaaGreatDoor
