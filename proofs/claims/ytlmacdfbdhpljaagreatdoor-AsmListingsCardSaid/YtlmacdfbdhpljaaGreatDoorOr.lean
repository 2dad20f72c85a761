/- Own text: the instruction at the front of some bytes: the document's. -/
import Derived.Test.YtlmacdfbdhpljaaGreatDoorOt
namespace Go.Proofs.YtlmacdfbdhpljaaGreatDoor
open Go.Ev Go.Ev.Tr Go.Proofs
set_option maxRecDepth 1000000
noncomputable def smQ (f : Nat) : Option Summ := match Nat.beq f 94 with
  | true => some (hxSum [])
  | false => sm1 f
theorem smQ_ok : ∀ f s, smQ f = some s → SumAt f s := sm_cons sm1_ok hxB_at
noncomputable def toldT (xs : List I) (len : I) (org : Int) : T (AEnd × Hp) := callA smQ (roW xs) 79 [.wsl 6 (I.lit 0) len, .int .i64 ⟨org, 0, 131072⟩] hpW
noncomputable def toldR (xs : List I) (len : I) (org : Int) : T (Option (List Int × Int × Int × Int)) := (toldT xs len org).bind fun r => T.ret (insOf r)
/-- A byte below 128, or from there on. -/
def halI (h : Bool) (b : Int) : I := match h with
  | true => ⟨b, 128, 255⟩
  | false => ⟨b, 0, 127⟩
def halV (h : Bool) (b : Int) : Int := match h with
  | true => b - 256
  | false => b
def argTxR (h : Bool) (a : Nat) (b1 b2 behind : Int) : List Int := match a with
  | 1 => 36 :: hxL2 b1
  | 2 => 36 :: hxL4 (65280 + b1)
  | 4 => 36 :: hxL4 ((behind + halV h b1 + 65536) % 65536)
  | 5 => 36 :: hxL4 (b1 + 256 * b2)
  | _ => []
def insTR (h : Bool) (t : Tm) (b1 b2 org : Int) : Ins := (t.1 ++ (argTxR h t.2.1 b1 b2 (org + t.2.2.2.1) ++ t.2.2.1), t.2.2.2.1, t.2.2.2.2.1, t.2.2.2.2.2)
def insLR (h : Bool) (k : Nat) (b1 b2 org : Int) : Ins := match Nat.beq (tmA k).2.1 7 with
  | true => dbTx k
  | false => insTR h (tmA k) b1 b2 org
noncomputable def toldL (h : Bool) (b1 b2 len org : Int) (k : Nat) : Option (Option Ins) := bif specI k then none else match clsI k with
  | 1 => (toldR [I.lit k] (lenG 1 len) org).run
  | 2 => (toldR [I.lit k, halI h b1] (lenG 2 len) org).run
  | _ => (toldR [I.lit k, halI h b1, byI b2] (lenG 3 len) org).run
/-- The same, of those that need more than one byte. -/
noncomputable def toldM (h : Bool) (b1 b2 len org : Int) (k : Nat) : Option (Option Ins) := bif Nat.beq (clsI k) 1 then none else toldL h b1 b2 len org k
noncomputable def toldS (len org : Int) (k : Nat) : Option (Option Ins) := bif specI k || Nat.beq (clsI k) 1 then none else (toldR [I.lit k] ⟨len, 1, (clsI k : Int) - 1⟩ org).run
def expLR (h : Bool) (b1 b2 org : Int) (k : Nat) : Option (Option Ins) := bif specI k then none else some (some (insLR h k b1 b2 org))
def expMR (h : Bool) (b1 b2 org : Int) (k : Nat) : Option (Option Ins) := bif Nat.beq (clsI k) 1 then none else expLR h b1 b2 org k
end Go.Proofs.YtlmacdfbdhpljaaGreatDoor
