/- Own text: the document's instructions at the front of some bytes, run (2). -/
import Derived.Test.YtlmacdfbdhpljaaGreatDoorOr
namespace Go.Proofs.YtlmacdfbdhpljaaGreatDoor
open Go.Ev Go.Ev.Tr Go.Proofs
set_option maxRecDepth 1000000
theorem rL_8a (b1 b2 len org : Int) : (List.range' 128 8).map (toldL true b1 b2 len org) = (List.range' 128 8).map (expLR true b1 b2 org) := by kernel_rfl
theorem rL_8b (b1 b2 len org : Int) : (List.range' 136 8).map (toldL true b1 b2 len org) = (List.range' 136 8).map (expLR true b1 b2 org) := by kernel_rfl
theorem rM_8 (b1 b2 len org : Int) : (List.range' 128 16).map (toldM false b1 b2 len org) = (List.range' 128 16).map (expMR false b1 b2 org) := by kernel_rfl
theorem rS_8 (len org : Int) : (List.range' 128 16).map (toldS len org) = (List.range' 128 16).map expS := by kernel_rfl
theorem rL_9a (b1 b2 len org : Int) : (List.range' 144 8).map (toldL true b1 b2 len org) = (List.range' 144 8).map (expLR true b1 b2 org) := by kernel_rfl
theorem rL_9b (b1 b2 len org : Int) : (List.range' 152 8).map (toldL true b1 b2 len org) = (List.range' 152 8).map (expLR true b1 b2 org) := by kernel_rfl
theorem rM_9 (b1 b2 len org : Int) : (List.range' 144 16).map (toldM false b1 b2 len org) = (List.range' 144 16).map (expMR false b1 b2 org) := by kernel_rfl
theorem rS_9 (len org : Int) : (List.range' 144 16).map (toldS len org) = (List.range' 144 16).map expS := by kernel_rfl
theorem rL_10a (b1 b2 len org : Int) : (List.range' 160 8).map (toldL true b1 b2 len org) = (List.range' 160 8).map (expLR true b1 b2 org) := by kernel_rfl
theorem rL_10b (b1 b2 len org : Int) : (List.range' 168 8).map (toldL true b1 b2 len org) = (List.range' 168 8).map (expLR true b1 b2 org) := by kernel_rfl
theorem rM_10 (b1 b2 len org : Int) : (List.range' 160 16).map (toldM false b1 b2 len org) = (List.range' 160 16).map (expMR false b1 b2 org) := by kernel_rfl
theorem rS_10 (len org : Int) : (List.range' 160 16).map (toldS len org) = (List.range' 160 16).map expS := by kernel_rfl
theorem rL_11a (b1 b2 len org : Int) : (List.range' 176 8).map (toldL true b1 b2 len org) = (List.range' 176 8).map (expLR true b1 b2 org) := by kernel_rfl
theorem rL_11b (b1 b2 len org : Int) : (List.range' 184 8).map (toldL true b1 b2 len org) = (List.range' 184 8).map (expLR true b1 b2 org) := by kernel_rfl
theorem rM_11 (b1 b2 len org : Int) : (List.range' 176 16).map (toldM false b1 b2 len org) = (List.range' 176 16).map (expMR false b1 b2 org) := by kernel_rfl
theorem rS_11 (len org : Int) : (List.range' 176 16).map (toldS len org) = (List.range' 176 16).map expS := by kernel_rfl
end Go.Proofs.YtlmacdfbdhpljaaGreatDoor
