/- Own text, written by a program of mine: the acts of the processor, one by one, as the kernel reckons them. -/
import Derived.Test.YtmlfmkebljdoiaaGreatDoorCb
namespace Go.Proofs.YtmlfmkebljdoiaaGreatDoor
open Go.Ev Go.Ev.Tr Go.Proofs
set_option maxRecDepth 1000000
theorem actC16 : (fun c d => [128, 129, 130, 131, 132, 133, 134, 135].map fun op => lhs op c d) = (fun c d => [128, 129, 130, 131, 132, 133, 134, 135].map fun op => rhs op c d) := by kernel_rfl
theorem actC17 : (fun c d => [136, 137, 138, 139, 140, 141, 142, 143].map fun op => lhs op c d) = (fun c d => [136, 137, 138, 139, 140, 141, 142, 143].map fun op => rhs op c d) := by kernel_rfl
theorem actC18 : (fun c d => [144, 145, 146, 147, 148, 149, 150, 151].map fun op => lhs op c d) = (fun c d => [144, 145, 146, 147, 148, 149, 150, 151].map fun op => rhs op c d) := by kernel_rfl
theorem actC19 : (fun c d => [152, 153, 154, 155, 156, 157, 158, 159].map fun op => lhs op c d) = (fun c d => [152, 153, 154, 155, 156, 157, 158, 159].map fun op => rhs op c d) := by kernel_rfl
theorem actC20 : (fun c d => [160, 161, 162, 163, 164, 165, 166, 167].map fun op => lhs op c d) = (fun c d => [160, 161, 162, 163, 164, 165, 166, 167].map fun op => rhs op c d) := by kernel_rfl
theorem actC21 : (fun c d => [168, 169, 170, 171, 172, 173, 174, 175].map fun op => lhs op c d) = (fun c d => [168, 169, 170, 171, 172, 173, 174, 175].map fun op => rhs op c d) := by kernel_rfl
theorem actC22 : (fun c d => [176, 177, 178, 179, 180, 181, 182, 183].map fun op => lhs op c d) = (fun c d => [176, 177, 178, 179, 180, 181, 182, 183].map fun op => rhs op c d) := by kernel_rfl
theorem actC23 : (fun c d => [184, 185, 186, 187, 188, 189, 190, 191].map fun op => lhs op c d) = (fun c d => [184, 185, 186, 187, 188, 189, 190, 191].map fun op => rhs op c d) := by kernel_rfl
end Go.Proofs.YtmlfmkebljdoiaaGreatDoor
