/- Own text: AsmTimed's runs (2). -/
import Derived.Test.YtlmacdfbdhpljaaGreatDoorTa
namespace Go.Proofs.YtlmacdfbdhpljaaGreatDoor
open Go.Ev Go.Ev.Tr Go.Proofs
set_option maxRecDepth 1000000
theorem tm2_0 (t o : Int) : allN (tm2B t o) 16 0 = true := by kernel_rfl
theorem tm2_1 (t o : Int) : allN (tm2B t o) 16 16 = true := by kernel_rfl
theorem tm2_2 (t o : Int) : allN (tm2B t o) 16 32 = true := by kernel_rfl
theorem tm2_3 (t o : Int) : allN (tm2B t o) 16 48 = true := by kernel_rfl
theorem tm2_4 (t o : Int) : allN (tm2B t o) 16 64 = true := by kernel_rfl
theorem tm2_5 (t o : Int) : allN (tm2B t o) 16 80 = true := by kernel_rfl
theorem tm2_6 (t o : Int) : allN (tm2B t o) 16 96 = true := by kernel_rfl
theorem tm2_7 (t o : Int) : allN (tm2B t o) 16 112 = true := by kernel_rfl
end Go.Proofs.YtlmacdfbdhpljaaGreatDoor
