/- Own text: lines that end with digits, run (org). -/
import Derived.Test.YtlmacdfbdhpljaaGreatDoorLn
namespace Go.Proofs.YtlmacdfbdhpljaaGreatDoor
open Go.Ev Go.Ev.Tr Go.Proofs
set_option maxRecDepth 1000000
theorem org1 (a : Int) : (digFn0 orgPre).evM (digEv orgPre) () [a] = some (false, orgF (digVal [a]), ()) := by kernel_rfl
theorem org2 (a b : Int) : (digFn0 orgPre).evM (digEv orgPre) () [a, b] = some (false, orgF (digVal [a, b]), ()) := by kernel_rfl
theorem org3 (a b c : Int) : (digFn0 orgPre).evM (digEv orgPre) () [a, b, c] = some (false, orgF (digVal [a, b, c]), ()) := by kernel_rfl
theorem org4 (a b c d : Int) : (digFn0 orgPre).evM (digEv orgPre) () [a, b, c, d] = some (false, orgF (digVal [a, b, c, d]), ()) := by kernel_rfl
theorem org5 (a b c d e : Int) : (digFn0 orgPre).evM (digEv orgPre) () [a, b, c, d, e] = some (false, orgF (digVal [a, b, c, d, e]), ()) := by kernel_rfl
theorem org_all (cs : List Int) (h : okDig cs = true) : (digFn0 orgPre).evM (digEv orgPre) () cs = some (false, orgF (digVal cs), ()) := by
  simp only [okDig, Bool.and_eq_true] at h
  have h1 := Nat.le_of_ble_eq_true h.2.1
  have h2 := Nat.le_of_ble_eq_true h.2.2
  match cs, h1, h2 with
  | [a], _, _ => exact org1 a
  | [a, b], _, _ => exact org2 a b
  | [a, b, c], _, _ => exact org3 a b c
  | [a, b, c, d], _, _ => exact org4 a b c d
  | [a, b, c, d, e], _, _ => exact org5 a b c d e
  | _ :: _ :: _ :: _ :: _ :: _ :: _, _, h => exact absurd h (by simp)
theorem org_at : SumAt 133 (digFn orgPre orgF).sum := SFn.sound (ev := digEv orgPre) (digFn_ok (by decide) (fun _ _ => evAt_call (callAOK smD_ok) _ _ _) fun cs h => org_all cs h)
end Go.Proofs.YtlmacdfbdhpljaaGreatDoor
