/- Own text: Info and the document's, opcode by opcode (2). -/
import Derived.Test.YtlmacdfbdhpljaaGreatDoorSr0
namespace Go.Proofs.YtlmacdfbdhpljaaGreatDoor
open Go.Ev Go.Ev.Tr Go.Proofs
set_option maxRecDepth 1000000
theorem inf2_0 : allN (infB true) 16 0 = true := by kernel_rfl
theorem inf2_1 : allN (infB true) 16 16 = true := by kernel_rfl
theorem inf2_2 : allN (infB true) 16 32 = true := by kernel_rfl
theorem inf2_3 : allN (infB true) 16 48 = true := by kernel_rfl
theorem inf2_4 : allN (infB true) 16 64 = true := by kernel_rfl
theorem inf2_5 : allN (infB true) 16 80 = true := by kernel_rfl
theorem inf2_6 : allN (infB true) 16 96 = true := by kernel_rfl
theorem inf2_7 : allN (infB true) 16 112 = true := by kernel_rfl
end Go.Proofs.YtlmacdfbdhpljaaGreatDoor
