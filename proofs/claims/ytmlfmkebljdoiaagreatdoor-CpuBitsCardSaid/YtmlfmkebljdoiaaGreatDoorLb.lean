/- Own text: CpuBits: what is asked on its way, for the other places. -/
import Derived.Test.YtmlfmkebljdoiaaGreatDoorL9
namespace Go.Proofs.YtmlfmkebljdoiaaGreatDoor
open Go.Ev Go.Ev.Tr Go.Proofs
set_option maxRecDepth 1000000
theorem l9_4t : (fun r bit which => lawPath (dirs9 4 true) (law9 r bit which)) = (fun r bit which => some (conds9 (g9 r 4) which (k9 bit) 4 true, some true)) := by kernel_rfl
theorem l9_4f : (fun r bit which => lawPath (dirs9 4 false) (law9 r bit which)) = (fun r bit which => some (conds9 (g9 r 4) which (k9 bit) 4 false, some true)) := by kernel_rfl
theorem l9_5t : (fun r bit which => lawPath (dirs9 5 true) (law9 r bit which)) = (fun r bit which => some (conds9 (g9 r 5) which (k9 bit) 5 true, some true)) := by kernel_rfl
theorem l9_5f : (fun r bit which => lawPath (dirs9 5 false) (law9 r bit which)) = (fun r bit which => some (conds9 (g9 r 5) which (k9 bit) 5 false, some true)) := by kernel_rfl
theorem l9_6t : (fun r bit which => lawPath (dirs9 6 true) (law9 r bit which)) = (fun r bit which => some (conds9 (g9 r 6) which (k9 bit) 6 true, some true)) := by kernel_rfl
theorem l9_6f : (fun r bit which => lawPath (dirs9 6 false) (law9 r bit which)) = (fun r bit which => some (conds9 (g9 r 6) which (k9 bit) 6 false, some true)) := by kernel_rfl
theorem l9_7t : (fun r bit which => lawPath (dirs9 7 true) (law9 r bit which)) = (fun r bit which => some (conds9 (g9 r 7) which (k9 bit) 7 true, some true)) := by kernel_rfl
theorem l9_7f : (fun r bit which => lawPath (dirs9 7 false) (law9 r bit which)) = (fun r bit which => some (conds9 (g9 r 7) which (k9 bit) 7 false, some true)) := by kernel_rfl
end Go.Proofs.YtmlfmkebljdoiaaGreatDoor
