/- Own text: the document's instructions at the front of some bytes, run (1). -/
import Derived.Test.YtlmacdfbdhpljaaGreatDoorOr
namespace Go.Proofs.YtlmacdfbdhpljaaGreatDoor
open Go.Ev Go.Ev.Tr Go.Proofs
set_option maxRecDepth 1000000
theorem rL_4a (b1 b2 len org : Int) : (List.range' 64 8).map (toldL true b1 b2 len org) = (List.range' 64 8).map (expLR true b1 b2 org) := by kernel_rfl
theorem rL_4b (b1 b2 len org : Int) : (List.range' 72 8).map (toldL true b1 b2 len org) = (List.range' 72 8).map (expLR true b1 b2 org) := by kernel_rfl
theorem rM_4 (b1 b2 len org : Int) : (List.range' 64 16).map (toldM false b1 b2 len org) = (List.range' 64 16).map (expMR false b1 b2 org) := by kernel_rfl
theorem rS_4 (len org : Int) : (List.range' 64 16).map (toldS len org) = (List.range' 64 16).map expS := by kernel_rfl
theorem rL_5a (b1 b2 len org : Int) : (List.range' 80 8).map (toldL true b1 b2 len org) = (List.range' 80 8).map (expLR true b1 b2 org) := by kernel_rfl
theorem rL_5b (b1 b2 len org : Int) : (List.range' 88 8).map (toldL true b1 b2 len org) = (List.range' 88 8).map (expLR true b1 b2 org) := by kernel_rfl
theorem rM_5 (b1 b2 len org : Int) : (List.range' 80 16).map (toldM false b1 b2 len org) = (List.range' 80 16).map (expMR false b1 b2 org) := by kernel_rfl
theorem rS_5 (len org : Int) : (List.range' 80 16).map (toldS len org) = (List.range' 80 16).map expS := by kernel_rfl
theorem rL_6a (b1 b2 len org : Int) : (List.range' 96 8).map (toldL true b1 b2 len org) = (List.range' 96 8).map (expLR true b1 b2 org) := by kernel_rfl
theorem rL_6b (b1 b2 len org : Int) : (List.range' 104 8).map (toldL true b1 b2 len org) = (List.range' 104 8).map (expLR true b1 b2 org) := by kernel_rfl
theorem rM_6 (b1 b2 len org : Int) : (List.range' 96 16).map (toldM false b1 b2 len org) = (List.range' 96 16).map (expMR false b1 b2 org) := by kernel_rfl
theorem rS_6 (len org : Int) : (List.range' 96 16).map (toldS len org) = (List.range' 96 16).map expS := by kernel_rfl
theorem rL_7a (b1 b2 len org : Int) : (List.range' 112 8).map (toldL true b1 b2 len org) = (List.range' 112 8).map (expLR true b1 b2 org) := by kernel_rfl
theorem rL_7b (b1 b2 len org : Int) : (List.range' 120 8).map (toldL true b1 b2 len org) = (List.range' 120 8).map (expLR true b1 b2 org) := by kernel_rfl
theorem rM_7 (b1 b2 len org : Int) : (List.range' 112 16).map (toldM false b1 b2 len org) = (List.range' 112 16).map (expMR false b1 b2 org) := by kernel_rfl
theorem rS_7 (len org : Int) : (List.range' 112 16).map (toldS len org) = (List.range' 112 16).map expS := by kernel_rfl
end Go.Proofs.YtlmacdfbdhpljaaGreatDoor
