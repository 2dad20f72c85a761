/- Own text: AsmTimed's runs (3). -/
import Derived.Test.YtlmacdfbdhpljaaGreatDoorTa
namespace Go.Proofs.YtlmacdfbdhpljaaGreatDoor
open Go.Ev Go.Ev.Tr Go.Proofs
set_option maxRecDepth 1000000
theorem tm3_0 (t o : Int) : allN (tm2B t o) 16 128 = true := by kernel_rfl
theorem tm3_1 (t o : Int) : allN (tm2B t o) 16 144 = true := by kernel_rfl
theorem tm3_2 (t o : Int) : allN (tm2B t o) 16 160 = true := by kernel_rfl
theorem tm3_3 (t o : Int) : allN (tm2B t o) 16 176 = true := by kernel_rfl
theorem tm3_4 (t o : Int) : allN (tm2B t o) 16 192 = true := by kernel_rfl
theorem tm3_5 (t o : Int) : allN (tm2B t o) 16 208 = true := by kernel_rfl
theorem tm3_6 (t o : Int) : allN (tm2B t o) 16 224 = true := by kernel_rfl
theorem tm3_7 (t o : Int) : allN (tm2B t o) 16 240 = true := by kernel_rfl
end Go.Proofs.YtlmacdfbdhpljaaGreatDoor
