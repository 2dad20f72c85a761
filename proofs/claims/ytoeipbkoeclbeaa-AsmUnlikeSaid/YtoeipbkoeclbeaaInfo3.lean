/- Own text, written by a program of mine: that arcade/asm.Info answers so (the evaluator, run in the kernel). -/
import Derived.Test.YtoeipbkoeclbeaaInfo
import Derived.KernelRfl
namespace Go.Proofs.Ytoeipbkoeclbeaa
open Go.Ev
set_option maxRecDepth 1000000
theorem info12 : allN infoOk 32 384 = true := by kernel_rfl
theorem info13 : allN infoOk 32 416 = true := by kernel_rfl
theorem info14 : allN infoOk 32 448 = true := by kernel_rfl
theorem info15 : allN infoOk 32 480 = true := by kernel_rfl
end Go.Proofs.Ytoeipbkoeclbeaa
