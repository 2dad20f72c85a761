/- Own text: Info and the document's, opcode by opcode (0). -/
import Derived.Test.YtlmacdfbdhpljaaGreatDoorSq
namespace Go.Proofs.YtlmacdfbdhpljaaGreatDoor
open Go.Ev Go.Ev.Tr Go.Proofs
set_option maxRecDepth 1000000
noncomputable def infB (b : Bool) (k : Nat) : Bool := trueB (callA sm1 noRO 16 [.int .i64 (I.lit k), .bool b] (startHp 6 1000000)).run
theorem inf0_0 : allN (infB false) 16 0 = true := by kernel_rfl
theorem inf0_1 : allN (infB false) 16 16 = true := by kernel_rfl
theorem inf0_2 : allN (infB false) 16 32 = true := by kernel_rfl
theorem inf0_3 : allN (infB false) 16 48 = true := by kernel_rfl
theorem inf0_4 : allN (infB false) 16 64 = true := by kernel_rfl
theorem inf0_5 : allN (infB false) 16 80 = true := by kernel_rfl
theorem inf0_6 : allN (infB false) 16 96 = true := by kernel_rfl
theorem inf0_7 : allN (infB false) 16 112 = true := by kernel_rfl
end Go.Proofs.YtlmacdfbdhpljaaGreatDoor
