/- Own text, written by a program of mine: that arcade/asm.Info answers so (the evaluator, run in the kernel). -/
import Derived.Test.YtoeipbkoeclbeaaInfo
import Derived.KernelRfl
namespace Go.Proofs.Ytoeipbkoeclbeaa
open Go.Ev
set_option maxRecDepth 1000000
theorem info0 : allN infoOk 32 0 = true := by kernel_rfl
theorem info1 : allN infoOk 32 32 = true := by kernel_rfl
theorem info2 : allN infoOk 32 64 = true := by kernel_rfl
theorem info3 : allN infoOk 32 96 = true := by kernel_rfl
end Go.Proofs.Ytoeipbkoeclbeaa
