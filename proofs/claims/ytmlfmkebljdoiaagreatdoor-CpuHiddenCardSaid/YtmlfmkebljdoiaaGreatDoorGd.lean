/- Own text: the model: registers of a processor that runs; a step. -/
import Derived.Test.YtmlfmkebljdoiaaGreatDoorLg
import Derived.Test.YtmlfmkebljdoiaaGreatDoorKm
namespace Go.Proofs.YtmlfmkebljdoiaaGreatDoor
open Go.Ev Go.Ev.Tr Go.Proofs
set_option maxRecDepth 1000000
structure GoodX (g : Rg) : Prop where
  inr : InR g
  f16 : g.F % 16 = 0
  st : g.St = 0
theorem GoodX.id {g : Rg} (h : GoodX g) : bndR g = g := bnd_id h.inr h.f16 h.st
theorem insG {g g' : Rg} (hs : g.St = 0) {m m' : Mem} {op k : Int} (hop : m (pk16 g.PC) = op) (hi : firstF (z g.IME g) m op = some (k, ofR g', m')) : instrM 7 0 (ofR g) m = some (k, ofR g', m') := by
  rw [z_id hs] at hi; exact ins hop hi
end Go.Proofs.YtmlfmkebljdoiaaGreatDoor
