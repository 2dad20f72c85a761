/- Own text, written by a program of mine: the rounds of AsmUnlike (the evaluator, run in the kernel). -/
import Derived.Test.YtoeipbkoeclbeaaUnlike
import Derived.KernelRfl
namespace Go.Proofs.Ytoeipbkoeclbeaa
open Go.Ev
set_option maxRecDepth 1000000
theorem step24 : allN stepOK 16 384 = true := by kernel_rfl
theorem step25 : allN stepOK 16 400 = true := by kernel_rfl
theorem step26 : allN stepOK 16 416 = true := by kernel_rfl
theorem step27 : allN stepOK 16 432 = true := by kernel_rfl
theorem step28 : allN stepOK 16 448 = true := by kernel_rfl
theorem step29 : allN stepOK 16 464 = true := by kernel_rfl
theorem step30 : allN stepOK 16 480 = true := by kernel_rfl
theorem step31 : allN stepOK 16 496 = true := by kernel_rfl
theorem stepEnd : endOK = true := by kernel_rfl
end Go.Proofs.Ytoeipbkoeclbeaa
