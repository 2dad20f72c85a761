/- Own text, written by a program of mine: the acts of the processor, one by one, as the kernel reckons them. -/
import Derived.Test.YtmlfmkebljdoiaaGreatDoorCb
namespace Go.Proofs.YtmlfmkebljdoiaaGreatDoor
open Go.Ev Go.Ev.Tr Go.Proofs
set_option maxRecDepth 1000000
theorem snd1C0 : (fun c => (List.range' 0 8).map fun n => lhs1 n c) = (fun c => (List.range' 0 8).map fun n => rhs1 n c) := by kernel_rfl
theorem snd2C0 : (fun c d => (List.range' 0 8).map fun n => lhs2 n c d) = (fun c d => (List.range' 0 8).map fun n => rhs2 n c d) := by kernel_rfl
theorem snd1C1 : (fun c => (List.range' 8 8).map fun n => lhs1 n c) = (fun c => (List.range' 8 8).map fun n => rhs1 n c) := by kernel_rfl
theorem snd2C1 : (fun c d => (List.range' 8 8).map fun n => lhs2 n c d) = (fun c d => (List.range' 8 8).map fun n => rhs2 n c d) := by kernel_rfl
theorem snd1C2 : (fun c => (List.range' 16 8).map fun n => lhs1 n c) = (fun c => (List.range' 16 8).map fun n => rhs1 n c) := by kernel_rfl
theorem snd2C2 : (fun c d => (List.range' 16 8).map fun n => lhs2 n c d) = (fun c d => (List.range' 16 8).map fun n => rhs2 n c d) := by kernel_rfl
theorem snd1C3 : (fun c => (List.range' 24 8).map fun n => lhs1 n c) = (fun c => (List.range' 24 8).map fun n => rhs1 n c) := by kernel_rfl
theorem snd2C3 : (fun c d => (List.range' 24 8).map fun n => lhs2 n c d) = (fun c d => (List.range' 24 8).map fun n => rhs2 n c d) := by kernel_rfl
theorem snd1C4 : (fun c => (List.range' 32 8).map fun n => lhs1 n c) = (fun c => (List.range' 32 8).map fun n => rhs1 n c) := by kernel_rfl
theorem snd2C4 : (fun c d => (List.range' 32 8).map fun n => lhs2 n c d) = (fun c d => (List.range' 32 8).map fun n => rhs2 n c d) := by kernel_rfl
theorem snd1C5 : (fun c => (List.range' 40 8).map fun n => lhs1 n c) = (fun c => (List.range' 40 8).map fun n => rhs1 n c) := by kernel_rfl
theorem snd2C5 : (fun c d => (List.range' 40 8).map fun n => lhs2 n c d) = (fun c d => (List.range' 40 8).map fun n => rhs2 n c d) := by kernel_rfl
theorem snd1C6 : (fun c => (List.range' 48 8).map fun n => lhs1 n c) = (fun c => (List.range' 48 8).map fun n => rhs1 n c) := by kernel_rfl
theorem snd2C6 : (fun c d => (List.range' 48 8).map fun n => lhs2 n c d) = (fun c d => (List.range' 48 8).map fun n => rhs2 n c d) := by kernel_rfl
theorem snd1C7 : (fun c => (List.range' 56 8).map fun n => lhs1 n c) = (fun c => (List.range' 56 8).map fun n => rhs1 n c) := by kernel_rfl
theorem snd2C7 : (fun c d => (List.range' 56 8).map fun n => lhs2 n c d) = (fun c d => (List.range' 56 8).map fun n => rhs2 n c d) := by kernel_rfl
theorem snd1C8 : (fun c => (List.range' 64 8).map fun n => lhs1 n c) = (fun c => (List.range' 64 8).map fun n => rhs1 n c) := by kernel_rfl
theorem snd2C8 : (fun c d => (List.range' 64 8).map fun n => lhs2 n c d) = (fun c d => (List.range' 64 8).map fun n => rhs2 n c d) := by kernel_rfl
theorem snd1C9 : (fun c => (List.range' 72 8).map fun n => lhs1 n c) = (fun c => (List.range' 72 8).map fun n => rhs1 n c) := by kernel_rfl
theorem snd2C9 : (fun c d => (List.range' 72 8).map fun n => lhs2 n c d) = (fun c d => (List.range' 72 8).map fun n => rhs2 n c d) := by kernel_rfl
theorem snd1C10 : (fun c => (List.range' 80 8).map fun n => lhs1 n c) = (fun c => (List.range' 80 8).map fun n => rhs1 n c) := by kernel_rfl
theorem snd2C10 : (fun c d => (List.range' 80 8).map fun n => lhs2 n c d) = (fun c d => (List.range' 80 8).map fun n => rhs2 n c d) := by kernel_rfl
theorem snd1C11 : (fun c => (List.range' 88 8).map fun n => lhs1 n c) = (fun c => (List.range' 88 8).map fun n => rhs1 n c) := by kernel_rfl
theorem snd2C11 : (fun c d => (List.range' 88 8).map fun n => lhs2 n c d) = (fun c d => (List.range' 88 8).map fun n => rhs2 n c d) := by kernel_rfl
theorem snd1C12 : (fun c => (List.range' 96 8).map fun n => lhs1 n c) = (fun c => (List.range' 96 8).map fun n => rhs1 n c) := by kernel_rfl
theorem snd2C12 : (fun c d => (List.range' 96 8).map fun n => lhs2 n c d) = (fun c d => (List.range' 96 8).map fun n => rhs2 n c d) := by kernel_rfl
theorem snd1C13 : (fun c => (List.range' 104 8).map fun n => lhs1 n c) = (fun c => (List.range' 104 8).map fun n => rhs1 n c) := by kernel_rfl
theorem snd2C13 : (fun c d => (List.range' 104 8).map fun n => lhs2 n c d) = (fun c d => (List.range' 104 8).map fun n => rhs2 n c d) := by kernel_rfl
theorem snd1C14 : (fun c => (List.range' 112 8).map fun n => lhs1 n c) = (fun c => (List.range' 112 8).map fun n => rhs1 n c) := by kernel_rfl
theorem snd2C14 : (fun c d => (List.range' 112 8).map fun n => lhs2 n c d) = (fun c d => (List.range' 112 8).map fun n => rhs2 n c d) := by kernel_rfl
theorem snd1C15 : (fun c => (List.range' 120 8).map fun n => lhs1 n c) = (fun c => (List.range' 120 8).map fun n => rhs1 n c) := by kernel_rfl
theorem snd2C15 : (fun c d => (List.range' 120 8).map fun n => lhs2 n c d) = (fun c d => (List.range' 120 8).map fun n => rhs2 n c d) := by kernel_rfl
theorem snd0 : (fun c d => evA 9 103 (litV 203) (b8 c.sub) (litV 0) (b8 d) c) = (fun c d => actO 203 { c with op := 203, step := 0 } d 0) := by kernel_rfl
theorem snd3 : (fun c d => evA 9 103 (litV 203) (b8 c.sub) (ci c.step 3 9) (b8 d) c) = (fun c d => actO 203 { c with op := 203 } d 3) := by kernel_rfl
end Go.Proofs.YtmlfmkebljdoiaaGreatDoor
