/- Own text: what is to be shown of the acts. -/
import Derived.Test.YtmlfmkebljdoiaaGreatDoorCa
import Derived.Test.YtmlfmkebljdoiaaGreatDoorCg
namespace Go.Proofs.YtmlfmkebljdoiaaGreatDoor
open Go.Ev Go.Ev.Tr Go.Proofs
set_option maxRecDepth 1000000
def clss (f : Nat) : Cls := match f with
  | 15 => .read
  | 16 => .read
  | 17 => .read
  | 21 => .read
  | 22 => .read
  | 23 => .read
  | 24 => .read
  | 25 => .read
  | 26 => .read
  | 29 => .read
  | 30 => .read
  | 41 => .read
  | 42 => .read
  | 43 => .read
  | 45 => .read
  | 46 => .read
  | 47 => .read
  | 54 => .read
  | 55 => .read
  | 56 => .read
  | 57 => .read
  | 58 => .read
  | 64 => .read
  | 65 => .read
  | 66 => .read
  | 67 => .read
  | 68 => .read
  | 69 => .read
  | 70 => .read
  | 71 => .read
  | 72 => .read
  | 73 => .read
  | 74 => .read
  | 75 => .read
  | 76 => .read
  | 77 => .read
  | 78 => .read
  | 79 => .read
  | 80 => .read
  | 81 => .read
  | 113 => .read
  | 125 => .read
  | 126 => .read
  | 127 => .read
  | 128 => .read
  | 129 => .read
  | 130 => .read
  | 131 => .read
  | 132 => .read
  | 133 => .read
  | 136 => .read
  | 137 => .read
  | 138 => .read
  | 140 => .read
  | 141 => .read
  | 142 => .read
  | 143 => .read
  | 144 => .read
  | 146 => .read
  | 147 => .read
  | 163 => .read
  | 164 => .read
  | 165 => .read
  | 166 => .read
  | 183 => .read
  | _ => .eff
noncomputable def sm1 (f : Nat) : Option Summ := match Nat.beq f 141 with
  | true => some regSum
  | false => aluSm f
noncomputable def env1 : Env := { env0 with sm := sm1, cls := clss }
theorem env1OK : EnvOK Tryz.prog env1 := envOK_of tysOK fnsOK mixedOK
theorem sum1OK : SumOK Tryz.prog env1 := by
  intro f s h
  change sm1 f = some s at h
  unfold sm1 at h
  split at h
  · rename_i e
    have e := Nat.eq_of_beq_eq_true e
    subst e
    injection h with h; subst h
    exact regSum_at
  · exact aluSm_ok f s h
noncomputable def call1 : CallF := evF env1 1000 1000
theorem call1OK : CallOK Tryz.prog 2 call1 := evF_ok env1OK sum1OK 1000 1000
/-- A want and a bool. -/
def wspec : List CS := [.i 0 2, .i 0 65535, .i 0 255, .b]
def viewW (us : List V) (c : Cpu) : ActR := ⟨c, ⟨nAt us 0, nAt us 1, nAt us 2⟩, bAt us 3⟩
def viewA (M : Int) (r : AEnd × Hp) : Option ActR := match r.1 with
  | .ret v => match r.2.m.get 2 with
    | some (.cells cs) => match normC (cspec M) cs with
      | some us => match v with
        | .tup [.agg [x, y, z], q] => match normC wspec [x, y, z, q] with
          | some vs => some (viewW vs (cpuOf us))
          | none => none
        | _ => none
      | none => none
    | _ => none
  | _ => none
def litV (n : Int) : V := .int .i64 (I.lit n)
noncomputable def evA (M : Int) (f : Nat) (op sub step d : V) (c : Cpu) : Option ActR :=
  ((call1 ro0 f [.ptr 2 (I.lit 0), d] (hpL 2 1000000 [.cells (encX c (ci c.cur.St 0 3) (.sbool c.mid) (.sbool c.disp) op sub step)])).bind fun r => T.ofOpt (viewA M r)).run
/-- From which step on all cycles of a class are alike. -/
def capTab : List Nat := [0, 3, 1, 1, 2, 2, 0, 5, 1, 1, 1, 2, 4, 2, 3, 5, 3, 1, 3, 3, 3, 2, 1, 3, 0, 3, 1, 1, 1]
def capOf (op : Nat) : Nat := capTab.getD (rowTab.getD op 0) 0
/-- The cycles of an opcode one by one, and those behind them. -/
noncomputable def lhs (op : Nat) (c : Cpu) (d : Int) : List (Option ActR) :=
  evA 9 (83 + rowTab.getD op 0) (litV op) (b8 c.sub) (ci c.step (capOf op) 9) (b8 d) c ::
  (List.range (capOf op)).map fun s : Nat => evA 9 (83 + rowTab.getD op 0) (litV op) (b8 c.sub) (litV (s : Nat)) (b8 d) c
noncomputable def rhs (op : Nat) (c : Cpu) (d : Int) : List (Option ActR) :=
  actO op { c with op := op } d (capOf op) ::
  (List.range (capOf op)).map fun s : Nat => actO op { c with op := op, step := (s : Nat) } d (s : Nat)
/-- The second table: reading, and behind it. -/
noncomputable def lhs1 (n : Nat) (c : Cpu) : Option ActR := evA 9 103 (litV 203) (b8 c.sub) (litV 1) (litV n) c
noncomputable def rhs1 (n : Nat) (c : Cpu) : Option ActR := actO 203 { c with op := 203, step := 1 } n 1
noncomputable def lhs2 (n : Nat) (c : Cpu) (d : Int) : Option ActR := evA 9 103 (litV 203) (litV n) (litV 2) (b8 d) c
noncomputable def rhs2 (n : Nat) (c : Cpu) (d : Int) : Option ActR := actO 203 { c with op := 203, sub := n, step := 2 } d 2
end Go.Proofs.YtmlfmkebljdoiaaGreatDoor
