/- Own text: instructions whose argument has a sign. -/
import Derived.Test.YtlmacdfbdhpljaaGreatDoorOr
import Derived.Test.YtlmacdfbdhpljaaGreatDoorOd
namespace Go.Proofs.YtlmacdfbdhpljaaGreatDoor
open Go.Ev Go.Ev.Tr Go.Proofs
set_option maxRecDepth 1000000
noncomputable def smS (f : Nat) : Option Summ := match Nat.beq f 107 with
  | true => some decSumR
  | false => smQ f
theorem smS_ok : ∀ f s, smS f = some s → SumAt f s := sm_cons smQ_ok decR_at
noncomputable def signT (xs : List I) (len : I) (org : Int) : T (AEnd × Hp) := callA smS (roW xs) 79 [.wsl 6 (I.lit 0) len, .int .i64 ⟨org, 0, 131072⟩] hpW
noncomputable def signR (xs : List I) (len : I) (org : Int) : T (Option (List Int × Int × Int × Int)) := (signT xs len org).bind fun r => T.ret (insOf r)
end Go.Proofs.YtlmacdfbdhpljaaGreatDoor
