/- Own text: CpuRests: what is asked on its way. -/
import Derived.Test.YtmlfmkebljdoiaaGreatDoorLa
namespace Go.Proofs.YtmlfmkebljdoiaaGreatDoor
open Go.Ev Go.Ev.Tr Go.Proofs
set_option maxRecDepth 1000000
def gA (r : Rg) : Rg := { bndR r with PC := 512, IME := false }
def eqRr (g h : Rg) : Bool := (g.A == h.A && (g.F == h.F && (g.B == h.B && (g.C == h.C && (g.D == h.D && (g.E == h.E && (g.H == h.H && (g.L == h.L && (g.SP == h.SP)))))))))
def startA (g : Rg) : List Bool := [fOk g, !(eqRr g g)]
def mA (op : Int) : Mem := memOf [(514, 60), (513, 0), (512, op)]
noncomputable def qA (g : Rg) (op : Int) : R20 := runsR (ofR (bndR g)) (mA op) 1
noncomputable def askA (g : Rg) (op : Int) : Bool := (fin20 (s20 (ofR (bndR g)) (mA op) 1)).isSome
def xA (g : Rg) : GX := ⟨⟨g.A, 0, 255⟩, ⟨g.F, 0, 240⟩, ⟨g.B, 0, 255⟩, ⟨g.C, 0, 255⟩, ⟨g.D, 0, 255⟩, ⟨g.E, 0, 255⟩, ⟨g.H, 0, 255⟩, ⟨g.L, 0, 255⟩, ⟨512, 512, 512⟩, false, ⟨0, 0, 0⟩⟩
def sA (g : Rg) (c : Cpu) (m : Mem) (k st pc ln i : Int) : RA := ⟨gxA (xA g) g.A ⟨g.SP, 0, 65535⟩, c, m, k, true, st, pc, ln, i⟩
def lnA (line : Int) : Int := IntKind.i64.wrap (1 * p2 (min (pickV line (5 : Nat)).toNat 64))
noncomputable def eA (c : Cpu) (m : Mem) (line : Int) : Cpu × Int := tickM c (cycD c m) (lnA line % 32)
noncomputable def condsA (nf : Int → Int) (g : Rg) (which idle line : Int) (k : Nat) (op st pc : Int) : List Bool := picks9 (pickV which (13 : Nat)) k ++ (startA (bndR g) ++ [askA g op, (finA nf (sA g (qA g op).c (qA g op).m k st pc line (pickV idle (40 : Nat)))).isSome, okC (qA g op).c])
noncomputable def endA (g : Rg) (op line : Int) : List Bool := [true, (eA (qA g op).c (qA g op).m line).2 == 0, (eA (qA g op).c (qA g op).m line).1.regs.St == 0, (eA (qA g op).c (qA g op).m line).1.want.k == 1]
noncomputable def endL (g : Rg) (op line : Int) : List Bool := [true, (eA (qA g op).c (qA g op).m line).2 == 0, (eA (qA g op).c (qA g op).m line).1.want.k == 0]
def dirsA (k : Nat) : List Bool := dpick9 k ++ ([true, false] ++ [true, true, true])
theorem lA_0 : (fun r which idle line => lawPath (dirsA 0 ++ [true, true, true, true]) (lawA 0 0 1 513 (fun _ => 0) r which idle line)) = (fun r which idle line => some (condsA (fun _ => 0) (gA r) which idle line 0 118 1 513 ++ endA (gA r) 118 line, some ((eA (qA (gA r) 118).c (qA (gA r) 118).m line).1.want.a == 513))) := by kernel_rfl
theorem lA_1 : (fun r which idle line => lawPath (dirsA 1 ++ [true, true, true, true]) (lawA 1 1 2 514 (fun _ => 0) r which idle line)) = (fun r which idle line => some (condsA (fun _ => 0) (gA r) which idle line 1 16 2 514 ++ endA (gA r) 16 line, some ((eA (qA (gA r) 16).c (qA (gA r) 16).m line).1.want.a == 514))) := by kernel_rfl
theorem lA_2 : (fun r which idle line => lawPath (dirsA 2 ++ [true, true, true]) (lawA 2 12 3 513 (fun i => i) r which idle line)) = (fun r which idle line => some (condsA (fun i => i) (gA r) which idle line 2 211 3 513 ++ endL (gA r) 211 line, some ((eA (qA (gA r) 211).c (qA (gA r) 211).m line).1.regs.St == 3))) := by kernel_rfl
theorem lA_3 : (fun r which idle line => lawPath (dirsA 3 ++ [true, true, true]) (lawA 2 12 3 513 (fun i => i) r which idle line)) = (fun r which idle line => some (condsA (fun i => i) (gA r) which idle line 3 219 3 513 ++ endL (gA r) 219 line, some ((eA (qA (gA r) 219).c (qA (gA r) 219).m line).1.regs.St == 3))) := by kernel_rfl
theorem lA_4 : (fun r which idle line => lawPath (dirsA 4 ++ [true, true, true]) (lawA 2 12 3 513 (fun i => i) r which idle line)) = (fun r which idle line => some (condsA (fun i => i) (gA r) which idle line 4 221 3 513 ++ endL (gA r) 221 line, some ((eA (qA (gA r) 221).c (qA (gA r) 221).m line).1.regs.St == 3))) := by kernel_rfl
theorem lA_5 : (fun r which idle line => lawPath (dirsA 5 ++ [true, true, true]) (lawA 2 12 3 513 (fun i => i) r which idle line)) = (fun r which idle line => some (condsA (fun i => i) (gA r) which idle line 5 227 3 513 ++ endL (gA r) 227 line, some ((eA (qA (gA r) 227).c (qA (gA r) 227).m line).1.regs.St == 3))) := by kernel_rfl
theorem lA_6 : (fun r which idle line => lawPath (dirsA 6 ++ [true, true, true]) (lawA 2 12 3 513 (fun i => i) r which idle line)) = (fun r which idle line => some (condsA (fun i => i) (gA r) which idle line 6 228 3 513 ++ endL (gA r) 228 line, some ((eA (qA (gA r) 228).c (qA (gA r) 228).m line).1.regs.St == 3))) := by kernel_rfl
theorem lA_7 : (fun r which idle line => lawPath (dirsA 7 ++ [true, true, true]) (lawA 2 12 3 513 (fun i => i) r which idle line)) = (fun r which idle line => some (condsA (fun i => i) (gA r) which idle line 7 235 3 513 ++ endL (gA r) 235 line, some ((eA (qA (gA r) 235).c (qA (gA r) 235).m line).1.regs.St == 3))) := by kernel_rfl
theorem lA_8 : (fun r which idle line => lawPath (dirsA 8 ++ [true, true, true]) (lawA 2 12 3 513 (fun i => i) r which idle line)) = (fun r which idle line => some (condsA (fun i => i) (gA r) which idle line 8 236 3 513 ++ endL (gA r) 236 line, some ((eA (qA (gA r) 236).c (qA (gA r) 236).m line).1.regs.St == 3))) := by kernel_rfl
theorem lA_9 : (fun r which idle line => lawPath (dirsA 9 ++ [true, true, true]) (lawA 2 12 3 513 (fun i => i) r which idle line)) = (fun r which idle line => some (condsA (fun i => i) (gA r) which idle line 9 237 3 513 ++ endL (gA r) 237 line, some ((eA (qA (gA r) 237).c (qA (gA r) 237).m line).1.regs.St == 3))) := by kernel_rfl
theorem lA_10 : (fun r which idle line => lawPath (dirsA 10 ++ [true, true, true]) (lawA 2 12 3 513 (fun i => i) r which idle line)) = (fun r which idle line => some (condsA (fun i => i) (gA r) which idle line 10 244 3 513 ++ endL (gA r) 244 line, some ((eA (qA (gA r) 244).c (qA (gA r) 244).m line).1.regs.St == 3))) := by kernel_rfl
theorem lA_11 : (fun r which idle line => lawPath (dirsA 11 ++ [true, true, true]) (lawA 2 12 3 513 (fun i => i) r which idle line)) = (fun r which idle line => some (condsA (fun i => i) (gA r) which idle line 11 252 3 513 ++ endL (gA r) 252 line, some ((eA (qA (gA r) 252).c (qA (gA r) 252).m line).1.regs.St == 3))) := by kernel_rfl
theorem lA_12 : (fun r which idle line => lawPath (dirsA 12 ++ [true, true, true]) (lawA 2 12 3 513 (fun i => i) r which idle line)) = (fun r which idle line => some (condsA (fun i => i) (gA r) which idle line 12 253 3 513 ++ endL (gA r) 253 line, some ((eA (qA (gA r) 253).c (qA (gA r) 253).m line).1.regs.St == 3))) := by kernel_rfl
end Go.Proofs.YtmlfmkebljdoiaaGreatDoor
