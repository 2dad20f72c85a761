/- Own text: lines that end with digits, run (jr). -/
import Derived.Test.YtlmacdfbdhpljaaGreatDoorLn
namespace Go.Proofs.YtlmacdfbdhpljaaGreatDoor
open Go.Ev Go.Ev.Tr Go.Proofs
set_option maxRecDepth 1000000
theorem jr1 (a : Int) : (digFn0 jrPre).evM (digEv jrPre) () [a] = some (false, jrF (digVal [a]), ()) := by kernel_rfl
theorem jr2 (a b : Int) : (digFn0 jrPre).evM (digEv jrPre) () [a, b] = some (false, jrF (digVal [a, b]), ()) := by kernel_rfl
theorem jr3 (a b c : Int) : (digFn0 jrPre).evM (digEv jrPre) () [a, b, c] = some (false, jrF (digVal [a, b, c]), ()) := by kernel_rfl
theorem jr4 (a b c d : Int) : (digFn0 jrPre).evM (digEv jrPre) () [a, b, c, d] = some (false, jrF (digVal [a, b, c, d]), ()) := by kernel_rfl
theorem jr5 (a b c d e : Int) : (digFn0 jrPre).evM (digEv jrPre) () [a, b, c, d, e] = some (false, jrF (digVal [a, b, c, d, e]), ()) := by kernel_rfl
theorem jr_all (cs : List Int) (h : okDig cs = true) : (digFn0 jrPre).evM (digEv jrPre) () cs = some (false, jrF (digVal cs), ()) := by
  simp only [okDig, Bool.and_eq_true] at h
  have h1 := Nat.le_of_ble_eq_true h.2.1
  have h2 := Nat.le_of_ble_eq_true h.2.2
  match cs, h1, h2 with
  | [a], _, _ => exact jr1 a
  | [a, b], _, _ => exact jr2 a b
  | [a, b, c], _, _ => exact jr3 a b c
  | [a, b, c, d], _, _ => exact jr4 a b c d
  | [a, b, c, d, e], _, _ => exact jr5 a b c d e
  | _ :: _ :: _ :: _ :: _ :: _ :: _, _, h => exact absurd h (by simp)
theorem jr_at : SumAt 133 (digFn jrPre jrF).sum := SFn.sound (ev := digEv jrPre) (digFn_ok (by decide) (fun _ _ => evAt_call (callAOK smD_ok) _ _ _) fun cs h => jr_all cs h)
end Go.Proofs.YtlmacdfbdhpljaaGreatDoor
