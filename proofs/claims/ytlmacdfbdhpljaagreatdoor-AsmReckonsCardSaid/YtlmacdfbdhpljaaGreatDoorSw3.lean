/- Own text: Eval. -/
import Derived.Test.YtlmacdfbdhpljaaGreatDoorSw2
namespace Go.Proofs.YtlmacdfbdhpljaaGreatDoor
open Go.Ev Go.Ev.Tr Go.Proofs
set_option maxRecDepth 1000000
noncomputable def smV (pe : Sc → Int → Bool) (e : ExM) (m : EvM) (f : Nat) : Option Summ := match Nat.beq f 38 with
  | true => some (exprF pe e).sum
  | false => match Nat.beq f 44 with
    | true => some (caughtSum m)
    | false => sm10 f
noncomputable def evalT (pe : Sc → Int → Bool) (e : ExM) (m : EvM) (t : List UInt8) (nm : V) (h : Int) : T (AEnd × Hp) := callA (smV pe e m) noRO 19 [.ssym t, nm, .int .i64 ⟨h, -9223372036854775808, 9223372036854775807⟩] (startHp 6 1000000)
def retE (r : AEnd × Hp) : Option Int := match r.1 with
  | .ret (.tup [.int k i, .int k1 p, .int k2 e]) => match decide (k = .i64) && (decide (k1 = .i64) && decide (k2 = .i64)) && (isZero p && isZero e) with
    | true => some i.n
    | false => none
  | _ => none
/-- At the head of a text. -/
abbrev sc1 (t : List UInt8) : Sc := ⟨t, 0, 0, false, [], false⟩
theorem eval_ev (pe : Sc → Int → Bool) (e : ExM) (m : EvM) (t : List UInt8) (dn : Dv) (h : Int) : ((evalT pe e m t (.deep dn) h).bind fun r => T.ret (retE r)).run =
  bif decide (200 < (t.length : Int)) then some none
  else bif okI6 0 && inSc (sc1 t) && pe (sc1 t) 0 then
    bif (e (sc1 t) 0).1 then some none
    else bif inSc (upd (sc1 t) (e (sc1 t) 0).2.2) && true then
      bif decide (afterBl (upd (sc1 t) (e (sc1 t) 0).2.2) < (t.length : Int)) then some none
      else bif (m (.ptr [dn] 0) (e (sc1 t) 0).2.1 h).isSome then some (some ((m (.ptr [dn] 0) (e (sc1 t) 0).2.1 h).getD 0)) else none
    else none
  else none := by kernel_rfl
theorem smV_ok {pe : Sc → Int → Bool} {e : ExM} {m : EvM} (hE : SumAt 38 (exprF pe e).sum) (hm : SumAt 77 (evSum m)) : ∀ f s, smV pe e m f = some s → SumAt f s := sm_cons (sm_cons sm10_ok (caught_at hm)) hE
end Go.Proofs.YtlmacdfbdhpljaaGreatDoor
