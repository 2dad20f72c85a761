/- Own text: a sign of one byte that must come. -/
import Derived.Test.YtlmacdfbdhpljaaGreatDoorSj
namespace Go.Proofs.YtlmacdfbdhpljaaGreatDoor
open Go.Ev Go.Ev.Tr Go.Proofs
set_option maxRecDepth 1000000
noncomputable def sm9 (f : Nat) : Option Summ := match Nat.beq f 75 with
  | true => some opF.sum
  | false => sm8 f
theorem sm9_ok : ∀ f s, sm9 f = some s → SumAt f s := sm_cons sm8_ok op_at
def need0 : SFn0 Sc Int Unit := mkFn 119 scB cChr cUnit (false, (), sc0)
def nd1 (x : Sc) (c : Int) : Bool × Int := needE (opAt x) [c]
def needF : SFn Sc Int Unit := ⟨need0, fun _ _ => true, fun x c => (!(nd1 x c).1, (), mv x (nd1 x c).2)⟩
theorem need_ev (x : Sc) (c : Int) : need0.evM (evOf (callS sm9) need0) x c = bif inSc x && true then
    needT (opAt x) (fun y => bif inSc y && true then some (true, (), y) else none) (fun y => bif inSc y && true then some (false, (), y) else none) [c]
  else none := by kernel_rfl
theorem nd1_in {x : Sc} (g : InSc x) (c : Int) : InSc (mv x (nd1 x c).2) := (needT_eq (β := Unit) (bad := fun _ => none) (good := fun _ => none) [c] (opAt_in g)).2
theorem need_at : SumAt 119 needF.sum := fn_at (callSOK sm9_ok) fun x c hx _ _ => by
  have hx : inSc x = true := hx
  have g := inSc_iff.1 hx
  refine (need_ev x c).trans ?_
  obtain ⟨e1, e2⟩ := needT_eq (bad := fun y => bif inSc y && true then some (true, (), y) else none) (good := fun y => bif inSc y && true then some (false, (), y) else none) [c] (opAt_in g)
  rw [hx, e1, inSc_iff.2 e2]
  show (bif true && true then _ else none) = some (!(nd1 x c).1, (), mv x (nd1 x c).2)
  unfold nd1
  cases (needE (opAt x) [c]).1 <;> rfl
end Go.Proofs.YtlmacdfbdhpljaaGreatDoor
