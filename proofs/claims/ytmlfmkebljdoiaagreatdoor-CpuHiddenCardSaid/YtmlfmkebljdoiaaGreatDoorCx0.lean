/- Own text, written by a program of mine: the acts of the processor, one by one, as the kernel reckons them. -/
import Derived.Test.YtmlfmkebljdoiaaGreatDoorCb
namespace Go.Proofs.YtmlfmkebljdoiaaGreatDoor
open Go.Ev Go.Ev.Tr Go.Proofs
set_option maxRecDepth 1000000
theorem actC0 : (fun c d => [0, 1, 2, 3, 4, 5, 6, 7].map fun op => lhs op c d) = (fun c d => [0, 1, 2, 3, 4, 5, 6, 7].map fun op => rhs op c d) := by kernel_rfl
theorem actC1 : (fun c d => [8, 9, 10, 11, 12, 13, 14, 15].map fun op => lhs op c d) = (fun c d => [8, 9, 10, 11, 12, 13, 14, 15].map fun op => rhs op c d) := by kernel_rfl
theorem actC2 : (fun c d => [16, 17, 18, 19, 20, 21, 22, 23].map fun op => lhs op c d) = (fun c d => [16, 17, 18, 19, 20, 21, 22, 23].map fun op => rhs op c d) := by kernel_rfl
theorem actC3 : (fun c d => [24, 25, 26, 27, 28, 29, 30, 31].map fun op => lhs op c d) = (fun c d => [24, 25, 26, 27, 28, 29, 30, 31].map fun op => rhs op c d) := by kernel_rfl
theorem actC4 : (fun c d => [32, 33, 34, 35, 36, 37, 38, 39].map fun op => lhs op c d) = (fun c d => [32, 33, 34, 35, 36, 37, 38, 39].map fun op => rhs op c d) := by kernel_rfl
theorem actC5 : (fun c d => [40, 41, 42, 43, 44, 45, 46, 47].map fun op => lhs op c d) = (fun c d => [40, 41, 42, 43, 44, 45, 46, 47].map fun op => rhs op c d) := by kernel_rfl
theorem actC6 : (fun c d => [48, 49, 50, 51, 52, 53, 54, 55].map fun op => lhs op c d) = (fun c d => [48, 49, 50, 51, 52, 53, 54, 55].map fun op => rhs op c d) := by kernel_rfl
theorem actC7 : (fun c d => [56, 57, 58, 59, 60, 61, 62, 63].map fun op => lhs op c d) = (fun c d => [56, 57, 58, 59, 60, 61, 62, 63].map fun op => rhs op c d) := by kernel_rfl
end Go.Proofs.YtmlfmkebljdoiaaGreatDoor
