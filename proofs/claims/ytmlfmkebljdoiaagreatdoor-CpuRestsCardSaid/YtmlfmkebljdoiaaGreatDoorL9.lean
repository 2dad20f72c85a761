/- Own text: CpuBits: what is asked on its way. -/
import Derived.Test.YtmlfmkebljdoiaaGreatDoorLg
namespace Go.Proofs.YtmlfmkebljdoiaaGreatDoor
open Go.Ev Go.Ev.Tr Go.Proofs
set_option maxRecDepth 1000000
noncomputable def c9 : Code := bodyOf Tryz.f9
/-- A part that is told in the other environment: pick stays a term. -/
noncomputable def termF (nt : Nat) (c : Code) (st : St) : T (X × St) := evC2 env6 ro0 call6 nt 1000 (.code c) st
theorem termF_ok (nt : Nat) (c : Code) (w0 : Base) (F : Nat → Prop) : HookOK Tryz.prog env7 w0 F ro0 nt c (termF nt c) := by
  intro ρ st a w r hs h
  exact evC2_sound env6OK call6OK 1000 (.code c) ρ st a w r _ trivial hs h fun _ _ _ hp => hp
noncomputable def c2_9 : C2 := pre 3 c9 (.seq (.hook (sL (sRn 3 c9)) (termF 168 (sL (sRn 3 c9)))) (.code (sRn 4 c9)))
theorem c2_9_eq : Tryz.f9.body = some c2_9.erase := by kernel_rfl
theorem ok9 : ∀ w0 F, c2_9.ok Tryz.prog env7 w0 F ro0 Tryz.f9.ntmps := fun w0 F => ⟨trivial, trivial, trivial, termF_ok _ _ w0 F, trivial⟩
noncomputable def law9 (r : Rg) (bit which : Int) : T (AEnd × Hp) := bodyF2 env7 10000 call7 ro0 Tryz.f9 c2_9 [regsA r, i64a bit, i64a which] (startHp 2 1000000)
def dpick9 (k : Nat) : List Bool := (List.range (k + 1)).map fun j => Nat.beq j k
def picks9 (v : Int) (k : Nat) : List Bool := (List.range (k + 1)).map fun j => v == ((j : Nat) : Int)
def eqRb (g h : Rg) : Bool := (g.A == h.A && (g.F == h.F && (g.B == h.B && (g.C == h.C && (g.D == h.D && (g.E == h.E && (g.H == h.H && (g.L == h.L && (g.SP == h.SP && (g.IME == h.IME))))))))))
def eqRc9 (g h : Rg) : Bool := (g.A == h.A && (g.F == h.F && (g.B == h.B && (g.C == h.C && (g.D == h.D && (g.E == h.E && (g.L == h.L && (g.SP == h.SP && (g.IME == h.IME)))))))))
def g9 (r : Rg) (n : Nat) : Rg := match n with
  | 6 => { bndR r with PC := 512, H := 194 }
  | _ => { bndR r with PC := 512 }
def start9 (g : Rg) (n : Nat) : List Bool := match n with
  | 6 => [fOk g, !(eqRc9 g g)]
  | _ => [fOk g, !(eqRb g g)]
def ad9 (g : Rg) : Int := pickV (256 * g.H + g.L) (65536 : Nat)
def m9 (g : Rg) (i k : Int) (n : Nat) : Mem := match n with
  | 6 => memOf [(ad9 g + 0, 173), (513, 64 * i + 8 * k + 6), (512, 203)]
  | n => memOf [(513, 64 * i + 8 * k + n), (512, 203)]
noncomputable def q9 (g : Rg) (i k : Int) (n : Nat) : R20 := runsR (ofR (bndR g)) (m9 g i k n) 1
noncomputable def ask9 (g : Rg) (i k : Int) (n : Nat) : Bool := (fin20 (s20 (ofR (bndR g)) (m9 g i k n) 1)).isSome
/-- The byte, before and after. -/
def v9 (g : Rg) : Nat → Int
  | 6 => 173
  | n => getR g n
noncomputable def w9 (g : Rg) (i k : Int) : Nat → Int
  | 6 => (q9 g i k 6).m (256 * g.H + g.L).toNat
  | n => getR (q9 g i k n).c.regs n
def one9 (k : Int) : Int := IntKind.i64.wrap (1 * p2 (min k.toNat 64))
def bitQ (g : Rg) (k : Int) (n : Nat) : Bool := (v9 g n / p2 (min k.toNat 64)) % 2 == 0
def res9 (v k : Int) : Int := bvBack .i64 (BitVec.ofInt 64 v &&& ~~~BitVec.ofInt 64 (one9 k))
def set9 (v k : Int) : Int := bvBack .i64 (BitVec.ofInt 64 v ||| BitVec.ofInt 64 (one9 k))
def f9 (g : Rg) : Bool → Int
  | true => orf (orf (andf g.F 16) 32) 128
  | false => orf (andf g.F 16) 32
noncomputable def conds9 (g : Rg) (which k : Int) (n : Nat) (h : Bool) : List Bool := picks9 (pickV which (8 : Nat)) n ++ (start9 (bndR g) n ++ ([ask9 g 1 k n, bitQ g k n, !(w9 g 1 k n == v9 g n), !((q9 g 1 k n).c.regs.F == f9 g h)] ++ (
  start9 (bndR g) n ++ ([ask9 g 2 k n, !(w9 g 2 k n == res9 (v9 g n) k), !((q9 g 2 k n).c.regs.F == g.F)] ++ (start9 (bndR g) n ++ [ask9 g 3 k n, !(w9 g 3 k n == set9 (v9 g n) k), !((q9 g 3 k n).c.regs.F == g.F)])))))
def dirs9 (n : Nat) (h : Bool) : List Bool := dpick9 n ++ ([true, false, true, h, false, false] ++ ([true, false, true, false, false] ++ [true, false, true, false, false]))
def k9 (bit : Int) : Int := pickV bit (8 : Nat)
theorem l9_0t : (fun r bit which => lawPath (dirs9 0 true) (law9 r bit which)) = (fun r bit which => some (conds9 (g9 r 0) which (k9 bit) 0 true, some true)) := by kernel_rfl
theorem l9_0f : (fun r bit which => lawPath (dirs9 0 false) (law9 r bit which)) = (fun r bit which => some (conds9 (g9 r 0) which (k9 bit) 0 false, some true)) := by kernel_rfl
theorem l9_1t : (fun r bit which => lawPath (dirs9 1 true) (law9 r bit which)) = (fun r bit which => some (conds9 (g9 r 1) which (k9 bit) 1 true, some true)) := by kernel_rfl
theorem l9_1f : (fun r bit which => lawPath (dirs9 1 false) (law9 r bit which)) = (fun r bit which => some (conds9 (g9 r 1) which (k9 bit) 1 false, some true)) := by kernel_rfl
theorem l9_2t : (fun r bit which => lawPath (dirs9 2 true) (law9 r bit which)) = (fun r bit which => some (conds9 (g9 r 2) which (k9 bit) 2 true, some true)) := by kernel_rfl
theorem l9_2f : (fun r bit which => lawPath (dirs9 2 false) (law9 r bit which)) = (fun r bit which => some (conds9 (g9 r 2) which (k9 bit) 2 false, some true)) := by kernel_rfl
theorem l9_3t : (fun r bit which => lawPath (dirs9 3 true) (law9 r bit which)) = (fun r bit which => some (conds9 (g9 r 3) which (k9 bit) 3 true, some true)) := by kernel_rfl
theorem l9_3f : (fun r bit which => lawPath (dirs9 3 false) (law9 r bit which)) = (fun r bit which => some (conds9 (g9 r 3) which (k9 bit) 3 false, some true)) := by kernel_rfl
end Go.Proofs.YtmlfmkebljdoiaaGreatDoor
