/- Own text: the document's instructions of the second table, run. -/
import Derived.Test.YtlmacdfbdhpljaaGreatDoorOr
namespace Go.Proofs.YtlmacdfbdhpljaaGreatDoor
open Go.Ev Go.Ev.Tr Go.Proofs
set_option maxRecDepth 1000000
noncomputable def toldB (len org : Int) (m : Nat) : Option (Option Ins) := (toldR [I.lit 203, I.lit m] (lenG 2 len) org).run
def expBR (org : Int) (m : Nat) : Option (Option Ins) := some (some (insT (tmB m) 0 0 org))
theorem rB_0 (len org : Int) : (List.range' 0 16).map (toldB len org) = (List.range' 0 16).map (expBR org) := by kernel_rfl
theorem rB_1 (len org : Int) : (List.range' 16 16).map (toldB len org) = (List.range' 16 16).map (expBR org) := by kernel_rfl
theorem rB_2 (len org : Int) : (List.range' 32 16).map (toldB len org) = (List.range' 32 16).map (expBR org) := by kernel_rfl
theorem rB_3 (len org : Int) : (List.range' 48 16).map (toldB len org) = (List.range' 48 16).map (expBR org) := by kernel_rfl
theorem rB_4 (len org : Int) : (List.range' 64 16).map (toldB len org) = (List.range' 64 16).map (expBR org) := by kernel_rfl
theorem rB_5 (len org : Int) : (List.range' 80 16).map (toldB len org) = (List.range' 80 16).map (expBR org) := by kernel_rfl
theorem rB_6 (len org : Int) : (List.range' 96 16).map (toldB len org) = (List.range' 96 16).map (expBR org) := by kernel_rfl
theorem rB_7 (len org : Int) : (List.range' 112 16).map (toldB len org) = (List.range' 112 16).map (expBR org) := by kernel_rfl
theorem rB_8 (len org : Int) : (List.range' 128 16).map (toldB len org) = (List.range' 128 16).map (expBR org) := by kernel_rfl
theorem rB_9 (len org : Int) : (List.range' 144 16).map (toldB len org) = (List.range' 144 16).map (expBR org) := by kernel_rfl
theorem rB_10 (len org : Int) : (List.range' 160 16).map (toldB len org) = (List.range' 160 16).map (expBR org) := by kernel_rfl
theorem rB_11 (len org : Int) : (List.range' 176 16).map (toldB len org) = (List.range' 176 16).map (expBR org) := by kernel_rfl
theorem rB_12 (len org : Int) : (List.range' 192 16).map (toldB len org) = (List.range' 192 16).map (expBR org) := by kernel_rfl
theorem rB_13 (len org : Int) : (List.range' 208 16).map (toldB len org) = (List.range' 208 16).map (expBR org) := by kernel_rfl
theorem rB_14 (len org : Int) : (List.range' 224 16).map (toldB len org) = (List.range' 224 16).map (expBR org) := by kernel_rfl
theorem rB_15 (len org : Int) : (List.range' 240 16).map (toldB len org) = (List.range' 240 16).map (expBR org) := by kernel_rfl
end Go.Proofs.YtlmacdfbdhpljaaGreatDoor
