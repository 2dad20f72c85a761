/- Own text: the document's instructions at the front of some bytes, run (0). -/
import Derived.Test.YtlmacdfbdhpljaaGreatDoorOr
namespace Go.Proofs.YtlmacdfbdhpljaaGreatDoor
open Go.Ev Go.Ev.Tr Go.Proofs
set_option maxRecDepth 1000000
theorem rL_0a (b1 b2 len org : Int) : (List.range' 0 8).map (toldL true b1 b2 len org) = (List.range' 0 8).map (expLR true b1 b2 org) := by kernel_rfl
theorem rL_0b (b1 b2 len org : Int) : (List.range' 8 8).map (toldL true b1 b2 len org) = (List.range' 8 8).map (expLR true b1 b2 org) := by kernel_rfl
theorem rM_0 (b1 b2 len org : Int) : (List.range' 0 16).map (toldM false b1 b2 len org) = (List.range' 0 16).map (expMR false b1 b2 org) := by kernel_rfl
theorem rS_0 (len org : Int) : (List.range' 0 16).map (toldS len org) = (List.range' 0 16).map expS := by kernel_rfl
theorem rL_1a (b1 b2 len org : Int) : (List.range' 16 8).map (toldL true b1 b2 len org) = (List.range' 16 8).map (expLR true b1 b2 org) := by kernel_rfl
theorem rL_1b (b1 b2 len org : Int) : (List.range' 24 8).map (toldL true b1 b2 len org) = (List.range' 24 8).map (expLR true b1 b2 org) := by kernel_rfl
theorem rM_1 (b1 b2 len org : Int) : (List.range' 16 16).map (toldM false b1 b2 len org) = (List.range' 16 16).map (expMR false b1 b2 org) := by kernel_rfl
theorem rS_1 (len org : Int) : (List.range' 16 16).map (toldS len org) = (List.range' 16 16).map expS := by kernel_rfl
theorem rL_2a (b1 b2 len org : Int) : (List.range' 32 8).map (toldL true b1 b2 len org) = (List.range' 32 8).map (expLR true b1 b2 org) := by kernel_rfl
theorem rL_2b (b1 b2 len org : Int) : (List.range' 40 8).map (toldL true b1 b2 len org) = (List.range' 40 8).map (expLR true b1 b2 org) := by kernel_rfl
theorem rM_2 (b1 b2 len org : Int) : (List.range' 32 16).map (toldM false b1 b2 len org) = (List.range' 32 16).map (expMR false b1 b2 org) := by kernel_rfl
theorem rS_2 (len org : Int) : (List.range' 32 16).map (toldS len org) = (List.range' 32 16).map expS := by kernel_rfl
theorem rL_3a (b1 b2 len org : Int) : (List.range' 48 8).map (toldL true b1 b2 len org) = (List.range' 48 8).map (expLR true b1 b2 org) := by kernel_rfl
theorem rL_3b (b1 b2 len org : Int) : (List.range' 56 8).map (toldL true b1 b2 len org) = (List.range' 56 8).map (expLR true b1 b2 org) := by kernel_rfl
theorem rM_3 (b1 b2 len org : Int) : (List.range' 48 16).map (toldM false b1 b2 len org) = (List.range' 48 16).map (expMR false b1 b2 org) := by kernel_rfl
theorem rS_3 (len org : Int) : (List.range' 48 16).map (toldS len org) = (List.range' 48 16).map expS := by kernel_rfl
end Go.Proofs.YtlmacdfbdhpljaaGreatDoor
