/- Own text: the program's instructions at the front of some bytes, run (the second table). Printed by genins.py's neighbour. -/
import Derived.Test.YtlmacdfbdhpljaaGreatDoorOt
namespace Go.Proofs.YtlmacdfbdhpljaaGreatDoor
open Go.Ev Go.Ev.Tr Go.Proofs
set_option maxRecDepth 1000000
noncomputable def oneB (len org : Int) (m : Nat) : Option (Option Ins) := (oneR [I.lit 203, I.lit m] (lenG 2 len) org).run
def expB (org : Int) (m : Nat) : Option (Option Ins) := some (some (insT (tmB m) 0 0 org))
theorem oB_0 (len org : Int) : (List.range' 0 16).map (oneB len org) = (List.range' 0 16).map (expB org) := by kernel_rfl
theorem oB_1 (len org : Int) : (List.range' 16 16).map (oneB len org) = (List.range' 16 16).map (expB org) := by kernel_rfl
theorem oB_2 (len org : Int) : (List.range' 32 16).map (oneB len org) = (List.range' 32 16).map (expB org) := by kernel_rfl
theorem oB_3 (len org : Int) : (List.range' 48 16).map (oneB len org) = (List.range' 48 16).map (expB org) := by kernel_rfl
theorem oB_4 (len org : Int) : (List.range' 64 16).map (oneB len org) = (List.range' 64 16).map (expB org) := by kernel_rfl
theorem oB_5 (len org : Int) : (List.range' 80 16).map (oneB len org) = (List.range' 80 16).map (expB org) := by kernel_rfl
theorem oB_6 (len org : Int) : (List.range' 96 16).map (oneB len org) = (List.range' 96 16).map (expB org) := by kernel_rfl
theorem oB_7 (len org : Int) : (List.range' 112 16).map (oneB len org) = (List.range' 112 16).map (expB org) := by kernel_rfl
theorem oB_8 (len org : Int) : (List.range' 128 16).map (oneB len org) = (List.range' 128 16).map (expB org) := by kernel_rfl
theorem oB_9 (len org : Int) : (List.range' 144 16).map (oneB len org) = (List.range' 144 16).map (expB org) := by kernel_rfl
theorem oB_10 (len org : Int) : (List.range' 160 16).map (oneB len org) = (List.range' 160 16).map (expB org) := by kernel_rfl
theorem oB_11 (len org : Int) : (List.range' 176 16).map (oneB len org) = (List.range' 176 16).map (expB org) := by kernel_rfl
theorem oB_12 (len org : Int) : (List.range' 192 16).map (oneB len org) = (List.range' 192 16).map (expB org) := by kernel_rfl
theorem oB_13 (len org : Int) : (List.range' 208 16).map (oneB len org) = (List.range' 208 16).map (expB org) := by kernel_rfl
theorem oB_14 (len org : Int) : (List.range' 224 16).map (oneB len org) = (List.range' 224 16).map (expB org) := by kernel_rfl
theorem oB_15 (len org : Int) : (List.range' 240 16).map (oneB len org) = (List.range' 240 16).map (expB org) := by kernel_rfl
end Go.Proofs.YtlmacdfbdhpljaaGreatDoor
