/- Own text: Info and the document's, opcode by opcode (1). -/
import Derived.Test.YtlmacdfbdhpljaaGreatDoorSr0
namespace Go.Proofs.YtlmacdfbdhpljaaGreatDoor
open Go.Ev Go.Ev.Tr Go.Proofs
set_option maxRecDepth 1000000
theorem inf1_0 : allN (infB false) 16 128 = true := by kernel_rfl
theorem inf1_1 : allN (infB false) 16 144 = true := by kernel_rfl
theorem inf1_2 : allN (infB false) 16 160 = true := by kernel_rfl
theorem inf1_3 : allN (infB false) 16 176 = true := by kernel_rfl
theorem inf1_4 : allN (infB false) 16 192 = true := by kernel_rfl
theorem inf1_5 : allN (infB false) 16 208 = true := by kernel_rfl
theorem inf1_6 : allN (infB false) 16 224 = true := by kernel_rfl
theorem inf1_7 : allN (infB false) 16 240 = true := by kernel_rfl
end Go.Proofs.YtlmacdfbdhpljaaGreatDoor
