/- Own text: the instruction at the front of some bytes: the program's. -/
import Derived.Test.YtlmacdfbdhpljaaGreatDoorOh
namespace Go.Proofs.YtlmacdfbdhpljaaGreatDoor
open Go.Ev Go.Ev.Tr Go.Proofs
set_option maxRecDepth 1000000
/-- A window; the powers of ten. -/
def roW (xs : List I) : RO := fun id => match Nat.beq id 0 with
  | true => some (.cells pow10C)
  | false => match Nat.beq id 6 with
    | true => some (.win .u8 xs)
    | false => none
def hpW : Hp := ⟨.lf, 7, 1000000⟩
def byI (b : Int) : I := ⟨b, 0, 255⟩
def lenG (n : Nat) (len : Int) : I := ⟨len, n, 4611686018427387904⟩
noncomputable def smO (f : Nat) : Option Summ := match Nat.beq f 124 with
  | true => some itoaSum
  | false => match Nat.beq f 56 with
    | true => some (hxSum [I.lit 36])
    | false => sm1 f
theorem smO_ok : ∀ f s, smO f = some s → SumAt f s := sm_cons (sm_cons sm1_ok hxA_at) itoa_at
def insOf (r : AEnd × Hp) : Option (List Int × Int × Int × Int) := match r.1 with
  | .ret (.agg [.str l, .int .i64 a, .int .i64 b, .int .i64 c]) => some (l.map (·.n), a.n, b.n, c.n)
  | .ret (.agg [.ssym l, .int .i64 a, .int .i64 b, .int .i64 c]) => some (l.map fun c => (c.toNat : Int), a.n, b.n, c.n)
  | _ => none
noncomputable def oneT (xs : List I) (len : I) (org : Int) : T (AEnd × Hp) := callA smO (roW xs) 49 [.wsl 6 (I.lit 0) len, .int .i64 ⟨org, 0, 131072⟩] hpW
noncomputable def oneR (xs : List I) (len : I) (org : Int) : T (Option (List Int × Int × Int × Int)) := (oneT xs len org).bind fun r => T.ret (insOf r)
end Go.Proofs.YtlmacdfbdhpljaaGreatDoor
