/- Own text: the document's instructions at the front of some bytes, run (3). -/
import Derived.Test.YtlmacdfbdhpljaaGreatDoorOr
namespace Go.Proofs.YtlmacdfbdhpljaaGreatDoor
open Go.Ev Go.Ev.Tr Go.Proofs
set_option maxRecDepth 1000000
theorem rL_12a (b1 b2 len org : Int) : (List.range' 192 8).map (toldL true b1 b2 len org) = (List.range' 192 8).map (expLR true b1 b2 org) := by kernel_rfl
theorem rL_12b (b1 b2 len org : Int) : (List.range' 200 8).map (toldL true b1 b2 len org) = (List.range' 200 8).map (expLR true b1 b2 org) := by kernel_rfl
theorem rM_12 (b1 b2 len org : Int) : (List.range' 192 16).map (toldM false b1 b2 len org) = (List.range' 192 16).map (expMR false b1 b2 org) := by kernel_rfl
theorem rS_12 (len org : Int) : (List.range' 192 16).map (toldS len org) = (List.range' 192 16).map expS := by kernel_rfl
theorem rL_13a (b1 b2 len org : Int) : (List.range' 208 8).map (toldL true b1 b2 len org) = (List.range' 208 8).map (expLR true b1 b2 org) := by kernel_rfl
theorem rL_13b (b1 b2 len org : Int) : (List.range' 216 8).map (toldL true b1 b2 len org) = (List.range' 216 8).map (expLR true b1 b2 org) := by kernel_rfl
theorem rM_13 (b1 b2 len org : Int) : (List.range' 208 16).map (toldM false b1 b2 len org) = (List.range' 208 16).map (expMR false b1 b2 org) := by kernel_rfl
theorem rS_13 (len org : Int) : (List.range' 208 16).map (toldS len org) = (List.range' 208 16).map expS := by kernel_rfl
theorem rL_14a (b1 b2 len org : Int) : (List.range' 224 8).map (toldL true b1 b2 len org) = (List.range' 224 8).map (expLR true b1 b2 org) := by kernel_rfl
theorem rL_14b (b1 b2 len org : Int) : (List.range' 232 8).map (toldL true b1 b2 len org) = (List.range' 232 8).map (expLR true b1 b2 org) := by kernel_rfl
theorem rM_14 (b1 b2 len org : Int) : (List.range' 224 16).map (toldM false b1 b2 len org) = (List.range' 224 16).map (expMR false b1 b2 org) := by kernel_rfl
theorem rS_14 (len org : Int) : (List.range' 224 16).map (toldS len org) = (List.range' 224 16).map expS := by kernel_rfl
theorem rL_15a (b1 b2 len org : Int) : (List.range' 240 8).map (toldL true b1 b2 len org) = (List.range' 240 8).map (expLR true b1 b2 org) := by kernel_rfl
theorem rL_15b (b1 b2 len org : Int) : (List.range' 248 8).map (toldL true b1 b2 len org) = (List.range' 248 8).map (expLR true b1 b2 org) := by kernel_rfl
theorem rM_15 (b1 b2 len org : Int) : (List.range' 240 16).map (toldM false b1 b2 len org) = (List.range' 240 16).map (expMR false b1 b2 org) := by kernel_rfl
theorem rS_15 (len org : Int) : (List.range' 240 16).map (toldS len org) = (List.range' 240 16).map expS := by kernel_rfl
end Go.Proofs.YtlmacdfbdhpljaaGreatDoor
