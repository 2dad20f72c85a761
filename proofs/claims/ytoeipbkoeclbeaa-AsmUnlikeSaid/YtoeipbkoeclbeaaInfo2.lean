/- Own text, written by a program of mine: that arcade/asm.Info answers so (the evaluator, run in the kernel). -/
import Derived.Test.YtoeipbkoeclbeaaInfo
import Derived.KernelRfl
namespace Go.Proofs.Ytoeipbkoeclbeaa
open Go.Ev
set_option maxRecDepth 1000000
theorem info8 : allN infoOk 32 256 = true := by kernel_rfl
theorem info9 : allN infoOk 32 288 = true := by kernel_rfl
theorem info10 : allN infoOk 32 320 = true := by kernel_rfl
theorem info11 : allN infoOk 32 352 = true := by kernel_rfl
end Go.Proofs.Ytoeipbkoeclbeaa
