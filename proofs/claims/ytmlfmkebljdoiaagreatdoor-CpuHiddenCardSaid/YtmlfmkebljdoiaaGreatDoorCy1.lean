/- Own text, written by a program of mine: the acts of the processor, one by one, as the kernel reckons them. -/
import Derived.Test.YtmlfmkebljdoiaaGreatDoorCb
namespace Go.Proofs.YtmlfmkebljdoiaaGreatDoor
open Go.Ev Go.Ev.Tr Go.Proofs
set_option maxRecDepth 1000000
theorem snd1C16 : (fun c => (List.range' 128 8).map fun n => lhs1 n c) = (fun c => (List.range' 128 8).map fun n => rhs1 n c) := by kernel_rfl
theorem snd2C16 : (fun c d => (List.range' 128 8).map fun n => lhs2 n c d) = (fun c d => (List.range' 128 8).map fun n => rhs2 n c d) := by kernel_rfl
theorem snd1C17 : (fun c => (List.range' 136 8).map fun n => lhs1 n c) = (fun c => (List.range' 136 8).map fun n => rhs1 n c) := by kernel_rfl
theorem snd2C17 : (fun c d => (List.range' 136 8).map fun n => lhs2 n c d) = (fun c d => (List.range' 136 8).map fun n => rhs2 n c d) := by kernel_rfl
theorem snd1C18 : (fun c => (List.range' 144 8).map fun n => lhs1 n c) = (fun c => (List.range' 144 8).map fun n => rhs1 n c) := by kernel_rfl
theorem snd2C18 : (fun c d => (List.range' 144 8).map fun n => lhs2 n c d) = (fun c d => (List.range' 144 8).map fun n => rhs2 n c d) := by kernel_rfl
theorem snd1C19 : (fun c => (List.range' 152 8).map fun n => lhs1 n c) = (fun c => (List.range' 152 8).map fun n => rhs1 n c) := by kernel_rfl
theorem snd2C19 : (fun c d => (List.range' 152 8).map fun n => lhs2 n c d) = (fun c d => (List.range' 152 8).map fun n => rhs2 n c d) := by kernel_rfl
theorem snd1C20 : (fun c => (List.range' 160 8).map fun n => lhs1 n c) = (fun c => (List.range' 160 8).map fun n => rhs1 n c) := by kernel_rfl
theorem snd2C20 : (fun c d => (List.range' 160 8).map fun n => lhs2 n c d) = (fun c d => (List.range' 160 8).map fun n => rhs2 n c d) := by kernel_rfl
theorem snd1C21 : (fun c => (List.range' 168 8).map fun n => lhs1 n c) = (fun c => (List.range' 168 8).map fun n => rhs1 n c) := by kernel_rfl
theorem snd2C21 : (fun c d => (List.range' 168 8).map fun n => lhs2 n c d) = (fun c d => (List.range' 168 8).map fun n => rhs2 n c d) := by kernel_rfl
theorem snd1C22 : (fun c => (List.range' 176 8).map fun n => lhs1 n c) = (fun c => (List.range' 176 8).map fun n => rhs1 n c) := by kernel_rfl
theorem snd2C22 : (fun c d => (List.range' 176 8).map fun n => lhs2 n c d) = (fun c d => (List.range' 176 8).map fun n => rhs2 n c d) := by kernel_rfl
theorem snd1C23 : (fun c => (List.range' 184 8).map fun n => lhs1 n c) = (fun c => (List.range' 184 8).map fun n => rhs1 n c) := by kernel_rfl
theorem snd2C23 : (fun c d => (List.range' 184 8).map fun n => lhs2 n c d) = (fun c d => (List.range' 184 8).map fun n => rhs2 n c d) := by kernel_rfl
theorem snd1C24 : (fun c => (List.range' 192 8).map fun n => lhs1 n c) = (fun c => (List.range' 192 8).map fun n => rhs1 n c) := by kernel_rfl
theorem snd2C24 : (fun c d => (List.range' 192 8).map fun n => lhs2 n c d) = (fun c d => (List.range' 192 8).map fun n => rhs2 n c d) := by kernel_rfl
theorem snd1C25 : (fun c => (List.range' 200 8).map fun n => lhs1 n c) = (fun c => (List.range' 200 8).map fun n => rhs1 n c) := by kernel_rfl
theorem snd2C25 : (fun c d => (List.range' 200 8).map fun n => lhs2 n c d) = (fun c d => (List.range' 200 8).map fun n => rhs2 n c d) := by kernel_rfl
theorem snd1C26 : (fun c => (List.range' 208 8).map fun n => lhs1 n c) = (fun c => (List.range' 208 8).map fun n => rhs1 n c) := by kernel_rfl
theorem snd2C26 : (fun c d => (List.range' 208 8).map fun n => lhs2 n c d) = (fun c d => (List.range' 208 8).map fun n => rhs2 n c d) := by kernel_rfl
theorem snd1C27 : (fun c => (List.range' 216 8).map fun n => lhs1 n c) = (fun c => (List.range' 216 8).map fun n => rhs1 n c) := by kernel_rfl
theorem snd2C27 : (fun c d => (List.range' 216 8).map fun n => lhs2 n c d) = (fun c d => (List.range' 216 8).map fun n => rhs2 n c d) := by kernel_rfl
theorem snd1C28 : (fun c => (List.range' 224 8).map fun n => lhs1 n c) = (fun c => (List.range' 224 8).map fun n => rhs1 n c) := by kernel_rfl
theorem snd2C28 : (fun c d => (List.range' 224 8).map fun n => lhs2 n c d) = (fun c d => (List.range' 224 8).map fun n => rhs2 n c d) := by kernel_rfl
theorem snd1C29 : (fun c => (List.range' 232 8).map fun n => lhs1 n c) = (fun c => (List.range' 232 8).map fun n => rhs1 n c) := by kernel_rfl
theorem snd2C29 : (fun c d => (List.range' 232 8).map fun n => lhs2 n c d) = (fun c d => (List.range' 232 8).map fun n => rhs2 n c d) := by kernel_rfl
theorem snd1C30 : (fun c => (List.range' 240 8).map fun n => lhs1 n c) = (fun c => (List.range' 240 8).map fun n => rhs1 n c) := by kernel_rfl
theorem snd2C30 : (fun c d => (List.range' 240 8).map fun n => lhs2 n c d) = (fun c d => (List.range' 240 8).map fun n => rhs2 n c d) := by kernel_rfl
theorem snd1C31 : (fun c => (List.range' 248 8).map fun n => lhs1 n c) = (fun c => (List.range' 248 8).map fun n => rhs1 n c) := by kernel_rfl
theorem snd2C31 : (fun c d => (List.range' 248 8).map fun n => lhs2 n c d) = (fun c d => (List.range' 248 8).map fun n => rhs2 n c d) := by kernel_rfl
end Go.Proofs.YtmlfmkebljdoiaaGreatDoor
