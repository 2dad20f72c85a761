/- Own text: the environment for runs with told arguments. -/
import Derived.Test.YtlmacdfbdhpljaaGreatDoorSm
namespace Go.Proofs.YtlmacdfbdhpljaaGreatDoor
open Go.Ev Go.Ev.Tr Go.Proofs
set_option maxRecDepth 1000000
def litS (l : List Int) : V := .str (l.map I.lit)
noncomputable def smP (f : Nat) : Option Summ := match Nat.beq f 161 with
  | true => some letterF.sum
  | false => match Nat.beq f 113 with
    | true => some digitF.sum
    | false => match Nat.beq f 160 with
      | true => some b16F.sum
      | false => match Nat.beq f 164 with
        | true => some resF.sum
        | false => sm1 f
theorem smP_ok : ∀ f s, smP f = some s → SumAt f s := sm_cons (sm_cons (sm_cons (sm_cons sm1_ok res_at) b16_at) digit_at) letter_at
end Go.Proofs.YtlmacdfbdhpljaaGreatDoor
