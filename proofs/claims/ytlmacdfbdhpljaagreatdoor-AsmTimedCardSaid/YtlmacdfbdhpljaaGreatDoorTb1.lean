/- Own text: AsmTimed's runs (1). -/
import Derived.Test.YtlmacdfbdhpljaaGreatDoorTa
namespace Go.Proofs.YtlmacdfbdhpljaaGreatDoor
open Go.Ev Go.Ev.Tr Go.Proofs
set_option maxRecDepth 1000000
theorem tm1_0 (s t o : Int) : allN (tm1B s t o) 16 128 = true := by kernel_rfl
theorem tm1_1 (s t o : Int) : allN (tm1B s t o) 16 144 = true := by kernel_rfl
theorem tm1_2 (s t o : Int) : allN (tm1B s t o) 16 160 = true := by kernel_rfl
theorem tm1_3 (s t o : Int) : allN (tm1B s t o) 16 176 = true := by kernel_rfl
theorem tm1_4 (s t o : Int) : allN (tm1B s t o) 16 192 = true := by kernel_rfl
theorem tm1_5 (s t o : Int) : allN (tm1B s t o) 16 208 = true := by kernel_rfl
theorem tm1_6 (s t o : Int) : allN (tm1B s t o) 16 224 = true := by kernel_rfl
theorem tm1_7 (s t o : Int) : allN (tm1B s t o) 16 240 = true := by kernel_rfl
end Go.Proofs.YtlmacdfbdhpljaaGreatDoor
