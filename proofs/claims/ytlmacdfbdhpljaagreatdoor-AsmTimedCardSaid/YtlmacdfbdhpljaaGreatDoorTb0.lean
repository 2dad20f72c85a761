/- Own text: AsmTimed's runs (0). -/
import Derived.Test.YtlmacdfbdhpljaaGreatDoorTa
namespace Go.Proofs.YtlmacdfbdhpljaaGreatDoor
open Go.Ev Go.Ev.Tr Go.Proofs
set_option maxRecDepth 1000000
theorem tm0_0 (s t o : Int) : allN (tm1B s t o) 16 0 = true := by kernel_rfl
theorem tm0_1 (s t o : Int) : allN (tm1B s t o) 16 16 = true := by kernel_rfl
theorem tm0_2 (s t o : Int) : allN (tm1B s t o) 16 32 = true := by kernel_rfl
theorem tm0_3 (s t o : Int) : allN (tm1B s t o) 16 48 = true := by kernel_rfl
theorem tm0_4 (s t o : Int) : allN (tm1B s t o) 16 64 = true := by kernel_rfl
theorem tm0_5 (s t o : Int) : allN (tm1B s t o) 16 80 = true := by kernel_rfl
theorem tm0_6 (s t o : Int) : allN (tm1B s t o) 16 96 = true := by kernel_rfl
theorem tm0_7 (s t o : Int) : allN (tm1B s t o) 16 112 = true := by kernel_rfl
end Go.Proofs.YtlmacdfbdhpljaaGreatDoor
