/- Own text, written by a program of mine: the acts of the processor, one by one, as the kernel reckons them. -/
import Derived.Test.YtmlfmkebljdoiaaGreatDoorCb
namespace Go.Proofs.YtmlfmkebljdoiaaGreatDoor
open Go.Ev Go.Ev.Tr Go.Proofs
set_option maxRecDepth 1000000
theorem actC8 : (fun c d => [64, 65, 66, 67, 68, 69, 70, 71].map fun op => lhs op c d) = (fun c d => [64, 65, 66, 67, 68, 69, 70, 71].map fun op => rhs op c d) := by kernel_rfl
theorem actC9 : (fun c d => [72, 73, 74, 75, 76, 77, 78, 79].map fun op => lhs op c d) = (fun c d => [72, 73, 74, 75, 76, 77, 78, 79].map fun op => rhs op c d) := by kernel_rfl
theorem actC10 : (fun c d => [80, 81, 82, 83, 84, 85, 86, 87].map fun op => lhs op c d) = (fun c d => [80, 81, 82, 83, 84, 85, 86, 87].map fun op => rhs op c d) := by kernel_rfl
theorem actC11 : (fun c d => [88, 89, 90, 91, 92, 93, 94, 95].map fun op => lhs op c d) = (fun c d => [88, 89, 90, 91, 92, 93, 94, 95].map fun op => rhs op c d) := by kernel_rfl
theorem actC12 : (fun c d => [96, 97, 98, 99, 100, 101, 102, 103].map fun op => lhs op c d) = (fun c d => [96, 97, 98, 99, 100, 101, 102, 103].map fun op => rhs op c d) := by kernel_rfl
theorem actC13 : (fun c d => [104, 105, 106, 107, 108, 109, 110, 111].map fun op => lhs op c d) = (fun c d => [104, 105, 106, 107, 108, 109, 110, 111].map fun op => rhs op c d) := by kernel_rfl
theorem actC14 : (fun c d => [112, 113, 114, 115, 116, 117, 118, 119].map fun op => lhs op c d) = (fun c d => [112, 113, 114, 115, 116, 117, 118, 119].map fun op => rhs op c d) := by kernel_rfl
theorem actC15 : (fun c d => [120, 121, 122, 123, 124, 125, 126, 127].map fun op => lhs op c d) = (fun c d => [120, 121, 122, 123, 124, 125, 126, 127].map fun op => rhs op c d) := by kernel_rfl
end Go.Proofs.YtmlfmkebljdoiaaGreatDoor
