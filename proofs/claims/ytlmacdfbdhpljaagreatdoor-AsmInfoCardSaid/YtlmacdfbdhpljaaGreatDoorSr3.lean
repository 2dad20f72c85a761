/- Own text: Info and the document's, opcode by opcode (3). -/
import Derived.Test.YtlmacdfbdhpljaaGreatDoorSr0
namespace Go.Proofs.YtlmacdfbdhpljaaGreatDoor
open Go.Ev Go.Ev.Tr Go.Proofs
set_option maxRecDepth 1000000
theorem inf3_0 : allN (infB true) 16 128 = true := by kernel_rfl
theorem inf3_1 : allN (infB true) 16 144 = true := by kernel_rfl
theorem inf3_2 : allN (infB true) 16 160 = true := by kernel_rfl
theorem inf3_3 : allN (infB true) 16 176 = true := by kernel_rfl
theorem inf3_4 : allN (infB true) 16 192 = true := by kernel_rfl
theorem inf3_5 : allN (infB true) 16 208 = true := by kernel_rfl
theorem inf3_6 : allN (infB true) 16 224 = true := by kernel_rfl
theorem inf3_7 : allN (infB true) 16 240 = true := by kernel_rfl
end Go.Proofs.YtlmacdfbdhpljaaGreatDoor
