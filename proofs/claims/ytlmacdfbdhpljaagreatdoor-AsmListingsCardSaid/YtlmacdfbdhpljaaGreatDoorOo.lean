/- Own text: the program's instructions at the front of some bytes, run. -/
import Derived.Test.YtlmacdfbdhpljaaGreatDoorOt
namespace Go.Proofs.YtlmacdfbdhpljaaGreatDoor
open Go.Ev Go.Ev.Tr Go.Proofs
set_option maxRecDepth 1000000
theorem oL_0 (b1 b2 len org : Int) : (List.range' 0 16).map (oneL b1 b2 len org) = (List.range' 0 16).map (expL b1 b2 org) := by kernel_rfl
theorem oL_1 (b1 b2 len org : Int) : (List.range' 16 16).map (oneL b1 b2 len org) = (List.range' 16 16).map (expL b1 b2 org) := by kernel_rfl
theorem oL_2 (b1 b2 len org : Int) : (List.range' 32 16).map (oneL b1 b2 len org) = (List.range' 32 16).map (expL b1 b2 org) := by kernel_rfl
theorem oL_3 (b1 b2 len org : Int) : (List.range' 48 16).map (oneL b1 b2 len org) = (List.range' 48 16).map (expL b1 b2 org) := by kernel_rfl
theorem oL_4 (b1 b2 len org : Int) : (List.range' 64 16).map (oneL b1 b2 len org) = (List.range' 64 16).map (expL b1 b2 org) := by kernel_rfl
theorem oL_5 (b1 b2 len org : Int) : (List.range' 80 16).map (oneL b1 b2 len org) = (List.range' 80 16).map (expL b1 b2 org) := by kernel_rfl
theorem oL_6 (b1 b2 len org : Int) : (List.range' 96 16).map (oneL b1 b2 len org) = (List.range' 96 16).map (expL b1 b2 org) := by kernel_rfl
theorem oL_7 (b1 b2 len org : Int) : (List.range' 112 16).map (oneL b1 b2 len org) = (List.range' 112 16).map (expL b1 b2 org) := by kernel_rfl
theorem oL_8 (b1 b2 len org : Int) : (List.range' 128 16).map (oneL b1 b2 len org) = (List.range' 128 16).map (expL b1 b2 org) := by kernel_rfl
theorem oL_9 (b1 b2 len org : Int) : (List.range' 144 16).map (oneL b1 b2 len org) = (List.range' 144 16).map (expL b1 b2 org) := by kernel_rfl
theorem oL_10 (b1 b2 len org : Int) : (List.range' 160 16).map (oneL b1 b2 len org) = (List.range' 160 16).map (expL b1 b2 org) := by kernel_rfl
theorem oL_11 (b1 b2 len org : Int) : (List.range' 176 16).map (oneL b1 b2 len org) = (List.range' 176 16).map (expL b1 b2 org) := by kernel_rfl
theorem oL_12 (b1 b2 len org : Int) : (List.range' 192 16).map (oneL b1 b2 len org) = (List.range' 192 16).map (expL b1 b2 org) := by kernel_rfl
theorem oL_13 (b1 b2 len org : Int) : (List.range' 208 16).map (oneL b1 b2 len org) = (List.range' 208 16).map (expL b1 b2 org) := by kernel_rfl
theorem oL_14 (b1 b2 len org : Int) : (List.range' 224 16).map (oneL b1 b2 len org) = (List.range' 224 16).map (expL b1 b2 org) := by kernel_rfl
theorem oL_15 (b1 b2 len org : Int) : (List.range' 240 16).map (oneL b1 b2 len org) = (List.range' 240 16).map (expL b1 b2 org) := by kernel_rfl
theorem oS_0 (len org : Int) : (List.range' 0 16).map (oneS len org) = (List.range' 0 16).map expS := by kernel_rfl
theorem oS_1 (len org : Int) : (List.range' 16 16).map (oneS len org) = (List.range' 16 16).map expS := by kernel_rfl
theorem oS_2 (len org : Int) : (List.range' 32 16).map (oneS len org) = (List.range' 32 16).map expS := by kernel_rfl
theorem oS_3 (len org : Int) : (List.range' 48 16).map (oneS len org) = (List.range' 48 16).map expS := by kernel_rfl
theorem oS_4 (len org : Int) : (List.range' 64 16).map (oneS len org) = (List.range' 64 16).map expS := by kernel_rfl
theorem oS_5 (len org : Int) : (List.range' 80 16).map (oneS len org) = (List.range' 80 16).map expS := by kernel_rfl
theorem oS_6 (len org : Int) : (List.range' 96 16).map (oneS len org) = (List.range' 96 16).map expS := by kernel_rfl
theorem oS_7 (len org : Int) : (List.range' 112 16).map (oneS len org) = (List.range' 112 16).map expS := by kernel_rfl
theorem oS_8 (len org : Int) : (List.range' 128 16).map (oneS len org) = (List.range' 128 16).map expS := by kernel_rfl
theorem oS_9 (len org : Int) : (List.range' 144 16).map (oneS len org) = (List.range' 144 16).map expS := by kernel_rfl
theorem oS_10 (len org : Int) : (List.range' 160 16).map (oneS len org) = (List.range' 160 16).map expS := by kernel_rfl
theorem oS_11 (len org : Int) : (List.range' 176 16).map (oneS len org) = (List.range' 176 16).map expS := by kernel_rfl
theorem oS_12 (len org : Int) : (List.range' 192 16).map (oneS len org) = (List.range' 192 16).map expS := by kernel_rfl
theorem oS_13 (len org : Int) : (List.range' 208 16).map (oneS len org) = (List.range' 208 16).map expS := by kernel_rfl
theorem oS_14 (len org : Int) : (List.range' 224 16).map (oneS len org) = (List.range' 224 16).map expS := by kernel_rfl
theorem oS_15 (len org : Int) : (List.range' 240 16).map (oneS len org) = (List.range' 240 16).map expS := by kernel_rfl
theorem o1_16 (org : Int) : (oneR [I.lit 16] (I.lit 1) org).run = some (some (dbTx 16)) := by kernel_rfl
theorem o1_203 (org : Int) : (oneR [I.lit 203] (I.lit 1) org).run = some (some (dbTx 203)) := by kernel_rfl
theorem o1_232 (org : Int) : (oneR [I.lit 232] (I.lit 1) org).run = some (some (dbTx 232)) := by kernel_rfl
theorem o1_248 (org : Int) : (oneR [I.lit 248] (I.lit 1) org).run = some (some (dbTx 248)) := by kernel_rfl
theorem o2_16a (len org : Int) : (oneR [I.lit 16, I.lit 0] (lenG 2 len) org).run = some (some (insT (tmA 16) 0 0 org)) := by kernel_rfl
theorem o2_16b (b len org : Int) : (oneR [I.lit 16, ⟨b, 1, 255⟩] (lenG 2 len) org).run = some (some (dbTx 16)) := by kernel_rfl
end Go.Proofs.YtlmacdfbdhpljaaGreatDoor
