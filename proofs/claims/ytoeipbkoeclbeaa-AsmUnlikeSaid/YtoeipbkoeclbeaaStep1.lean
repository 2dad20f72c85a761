/- Own text, written by a program of mine: the rounds of AsmUnlike (the evaluator, run in the kernel). -/
import Derived.Test.YtoeipbkoeclbeaaUnlike
import Derived.KernelRfl
namespace Go.Proofs.Ytoeipbkoeclbeaa
open Go.Ev
set_option maxRecDepth 1000000
theorem step8 : allN stepOK 16 128 = true := by kernel_rfl
theorem step9 : allN stepOK 16 144 = true := by kernel_rfl
theorem step10 : allN stepOK 16 160 = true := by kernel_rfl
theorem step11 : allN stepOK 16 176 = true := by kernel_rfl
theorem step12 : allN stepOK 16 192 = true := by kernel_rfl
theorem step13 : allN stepOK 16 208 = true := by kernel_rfl
theorem step14 : allN stepOK 16 224 = true := by kernel_rfl
theorem step15 : allN stepOK 16 240 = true := by kernel_rfl
end Go.Proofs.Ytoeipbkoeclbeaa
