/- Own text: CpuJumps: what is asked on its way. -/
import Derived.Test.YtmlfmkebljdoiaaGreatDoorCp
namespace Go.Proofs.YtmlfmkebljdoiaaGreatDoor
open Go.Ev Go.Ev.Tr Go.Proofs
set_option maxRecDepth 1000000
def eqRp (g h : Rg) : Bool := (g.A == h.A && (g.F == h.F && (g.B == h.B && (g.C == h.C && (g.D == h.D && (g.E == h.E && (g.H == h.H && (g.L == h.L && (g.SP == h.SP && (g.PC == h.PC && (g.IME == h.IME)))))))))))
def startP (g : Rg) : List Bool := [fOk g, !(eqRp g g)]
def picks (v : Int) (k : Nat) : List Bool := (List.range (k + 1)).map fun j => v == ((j : Nat) : Int)
def dpick (k : Nat) : List Bool := (List.range (k + 1)).map fun j => Nat.beq j k
def adr (g : Rg) (k : Int) : Int := (pickV g.PC (65536 : Nat) + k) % 65536
def jrOp (c : Nat) : Int := match c with
  | 4 => 24
  | c => 32 + 8 * (c : Int)
def jpOp (c : Nat) : Int := match c with
  | 4 => 195
  | c => 194 + 8 * (c : Int)
def mJr (g : Rg) (c : Nat) (e : Int) : Mem := memOf [(adr g 1, e), (pickV g.PC (65536 : Nat) + 0, jrOp c)]
def mJp (g : Rg) (c : Nat) (e : Int) : Mem := memOf [(adr g 2, g.B), (adr g 1, e), (pickV g.PC (65536 : Nat) + 0, jpOp c)]
def mHl (g : Rg) : Mem := memOf [(pickV g.PC (65536 : Nat) + 0, 233)]
noncomputable def tJ (g : Rg) (m : Mem) : Rg := (runsR (ofR (bndR g)) m 1).c.regs
noncomputable def askJ (g : Rg) (m : Mem) : Bool := (fin20 (s20 (ofR (bndR g)) m 1)).isSome
def asks (c : Nat) (g : Rg) : List Bool := match c with
  | 4 => []
  | c => [holdsM c g.F]
def wantJr (g : Rg) (e : Int) (h : Bool) : Int := match h with
  | true => g.PC + 2 + IntKind.i8.wrap e
  | false => g.PC + 2
def wantJp (g : Rg) (e : Int) (h : Bool) : Int := match h with
  | true => e + 256 * g.B
  | false => (g.PC + 3) % 65536
noncomputable def condsJ (cond : Int) (g : Rg) (e : Int) (c : Nat) (h : Bool) : List Bool := picks (pickV cond (5 : Nat)) c ++ (startP (bndR g) ++ (startP (bndR g) ++ (startP (bndR g) ++ (
  [askJ g (mJr g c e)] ++ (asks c g ++ ([!((tJ g (mJr g c e)).PC == pickV (wantJr g e h + 65536) (65536 : Nat)), !((tJ g (mJr g c e)).F == g.F), askJ g (mJp g c e)] ++ (asks c g ++
  [!((tJ g (mJp g c e)).PC == wantJp g e h), !((tJ g (mJp g c e)).F == g.F), askJ g (mHl g), (tJ g (mHl g)).PC == 256 * g.H + g.L])))))))
noncomputable def lastJ (g : Rg) : Bool := (tJ g (mHl g)).F == g.F
def dask (c : Nat) (h : Bool) : List Bool := match c with
  | 4 => []
  | _ => [h]
def dirsJ (c : Nat) (h : Bool) : List Bool := dpick c ++ ([true, false] ++ ([true, false] ++ ([true, false] ++ ([true] ++ (dask c h ++ ([false, false, true] ++ (dask c h ++ [false, false, true, true])))))))
noncomputable def lawJ (r : Rg) (cond e : Int) : T (AEnd × Hp) := call7 ro0 7 [regsA r, i64a cond, u8a e] (startHp 2 1000000)
theorem lawJ_path0t : (fun r cond e => lawPath (dirsJ 0 true) (lawJ r cond e)) = (fun r cond e => some (condsJ cond (bndR r) e 0 true, some (lastJ (bndR r)))) := by kernel_rfl
theorem lawJ_path0f : (fun r cond e => lawPath (dirsJ 0 false) (lawJ r cond e)) = (fun r cond e => some (condsJ cond (bndR r) e 0 false, some (lastJ (bndR r)))) := by kernel_rfl
theorem lawJ_path1t : (fun r cond e => lawPath (dirsJ 1 true) (lawJ r cond e)) = (fun r cond e => some (condsJ cond (bndR r) e 1 true, some (lastJ (bndR r)))) := by kernel_rfl
theorem lawJ_path1f : (fun r cond e => lawPath (dirsJ 1 false) (lawJ r cond e)) = (fun r cond e => some (condsJ cond (bndR r) e 1 false, some (lastJ (bndR r)))) := by kernel_rfl
theorem lawJ_path2t : (fun r cond e => lawPath (dirsJ 2 true) (lawJ r cond e)) = (fun r cond e => some (condsJ cond (bndR r) e 2 true, some (lastJ (bndR r)))) := by kernel_rfl
theorem lawJ_path2f : (fun r cond e => lawPath (dirsJ 2 false) (lawJ r cond e)) = (fun r cond e => some (condsJ cond (bndR r) e 2 false, some (lastJ (bndR r)))) := by kernel_rfl
theorem lawJ_path3t : (fun r cond e => lawPath (dirsJ 3 true) (lawJ r cond e)) = (fun r cond e => some (condsJ cond (bndR r) e 3 true, some (lastJ (bndR r)))) := by kernel_rfl
theorem lawJ_path3f : (fun r cond e => lawPath (dirsJ 3 false) (lawJ r cond e)) = (fun r cond e => some (condsJ cond (bndR r) e 3 false, some (lastJ (bndR r)))) := by kernel_rfl
theorem lawJ_path4t : (fun r cond e => lawPath (dirsJ 4 true) (lawJ r cond e)) = (fun r cond e => some (condsJ cond (bndR r) e 4 true, some (lastJ (bndR r)))) := by kernel_rfl
end Go.Proofs.YtmlfmkebljdoiaaGreatDoor
