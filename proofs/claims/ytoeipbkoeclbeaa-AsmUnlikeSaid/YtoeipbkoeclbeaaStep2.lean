/- Own text, written by a program of mine: the rounds of AsmUnlike (the evaluator, run in the kernel). -/
import Derived.Test.YtoeipbkoeclbeaaUnlike
import Derived.KernelRfl
namespace Go.Proofs.Ytoeipbkoeclbeaa
open Go.Ev
set_option maxRecDepth 1000000
theorem step16 : allN stepOK 16 256 = true := by kernel_rfl
theorem step17 : allN stepOK 16 272 = true := by kernel_rfl
theorem step18 : allN stepOK 16 288 = true := by kernel_rfl
theorem step19 : allN stepOK 16 304 = true := by kernel_rfl
theorem step20 : allN stepOK 16 320 = true := by kernel_rfl
theorem step21 : allN stepOK 16 336 = true := by kernel_rfl
theorem step22 : allN stepOK 16 352 = true := by kernel_rfl
theorem step23 : allN stepOK 16 368 = true := by kernel_rfl
end Go.Proofs.Ytoeipbkoeclbeaa
