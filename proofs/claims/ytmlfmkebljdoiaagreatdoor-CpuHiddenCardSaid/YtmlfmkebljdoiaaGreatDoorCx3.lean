/- Own text, written by a program of mine: the acts of the processor, one by one, as the kernel reckons them. -/
import Derived.Test.YtmlfmkebljdoiaaGreatDoorCb
namespace Go.Proofs.YtmlfmkebljdoiaaGreatDoor
open Go.Ev Go.Ev.Tr Go.Proofs
set_option maxRecDepth 1000000
theorem actC24 : (fun c d => [192, 193, 194, 195, 196, 197, 198, 199].map fun op => lhs op c d) = (fun c d => [192, 193, 194, 195, 196, 197, 198, 199].map fun op => rhs op c d) := by kernel_rfl
theorem actC25 : (fun c d => [200, 201, 202, 204, 205, 206, 207].map fun op => lhs op c d) = (fun c d => [200, 201, 202, 204, 205, 206, 207].map fun op => rhs op c d) := by kernel_rfl
theorem actC26 : (fun c d => [208, 209, 210, 211, 212, 213, 214, 215].map fun op => lhs op c d) = (fun c d => [208, 209, 210, 211, 212, 213, 214, 215].map fun op => rhs op c d) := by kernel_rfl
theorem actC27 : (fun c d => [216, 217, 218, 219, 220, 221, 222, 223].map fun op => lhs op c d) = (fun c d => [216, 217, 218, 219, 220, 221, 222, 223].map fun op => rhs op c d) := by kernel_rfl
theorem actC28 : (fun c d => [224, 225, 226, 227, 228, 229, 230, 231].map fun op => lhs op c d) = (fun c d => [224, 225, 226, 227, 228, 229, 230, 231].map fun op => rhs op c d) := by kernel_rfl
theorem actC29 : (fun c d => [232, 233, 234, 235, 236, 237, 238, 239].map fun op => lhs op c d) = (fun c d => [232, 233, 234, 235, 236, 237, 238, 239].map fun op => rhs op c d) := by kernel_rfl
theorem actC30 : (fun c d => [240, 241, 242, 243, 244, 245, 246, 247].map fun op => lhs op c d) = (fun c d => [240, 241, 242, 243, 244, 245, 246, 247].map fun op => rhs op c d) := by kernel_rfl
theorem actC31 : (fun c d => [248, 249, 250, 251, 252, 253, 254, 255].map fun op => lhs op c d) = (fun c d => [248, 249, 250, 251, 252, 253, 254, 255].map fun op => rhs op c d) := by kernel_rfl
end Go.Proofs.YtmlfmkebljdoiaaGreatDoor
