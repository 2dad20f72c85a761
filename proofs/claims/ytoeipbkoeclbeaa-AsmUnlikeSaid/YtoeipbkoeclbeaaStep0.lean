/- Own text, written by a program of mine: the rounds of AsmUnlike (the evaluator, run in the kernel). -/
import Derived.Test.YtoeipbkoeclbeaaUnlike
import Derived.KernelRfl
namespace Go.Proofs.Ytoeipbkoeclbeaa
open Go.Ev
set_option maxRecDepth 1000000
theorem step0 : allN stepOK 16 0 = true := by kernel_rfl
theorem step1 : allN stepOK 16 16 = true := by kernel_rfl
theorem step2 : allN stepOK 16 32 = true := by kernel_rfl
theorem step3 : allN stepOK 16 48 = true := by kernel_rfl
theorem step4 : allN stepOK 16 64 = true := by kernel_rfl
theorem step5 : allN stepOK 16 80 = true := by kernel_rfl
theorem step6 : allN stepOK 16 96 = true := by kernel_rfl
theorem step7 : allN stepOK 16 112 = true := by kernel_rfl
end Go.Proofs.Ytoeipbkoeclbeaa
