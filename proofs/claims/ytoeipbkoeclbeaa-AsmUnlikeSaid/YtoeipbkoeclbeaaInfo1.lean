/- Own text, written by a program of mine: that arcade/asm.Info answers so (the evaluator, run in the kernel). -/
import Derived.Test.YtoeipbkoeclbeaaInfo
import Derived.KernelRfl
namespace Go.Proofs.Ytoeipbkoeclbeaa
open Go.Ev
set_option maxRecDepth 1000000
theorem info4 : allN infoOk 32 128 = true := by kernel_rfl
theorem info5 : allN infoOk 32 160 = true := by kernel_rfl
theorem info6 : allN infoOk 32 192 = true := by kernel_rfl
theorem info7 : allN infoOk 32 224 = true := by kernel_rfl
end Go.Proofs.Ytoeipbkoeclbeaa
