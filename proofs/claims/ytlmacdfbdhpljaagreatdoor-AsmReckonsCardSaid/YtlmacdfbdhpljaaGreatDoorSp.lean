/- Own text: four lines, read. -/
import Derived.Test.YtlmacdfbdhpljaaGreatDoorSo
namespace Go.Proofs.YtlmacdfbdhpljaaGreatDoor
open Go.Ev Go.Ev.Tr Go.Proofs
set_option maxRecDepth 1000000
def lineTab : List (List V × V) := [
  ([(litS [111, 114, 103, 32, 36, 49, 53, 48]), (litS [])],
   (.tup [(.agg [(litS [111, 114, 103]), (litS []), (.bool false), (.deep (.sl 1 [(.ptr [(.str [110, 117, 109, 98, 101, 114]), (.int .i64 (4)), (.int .i64 (336)), (.str []), .nils] 0)])), .nils]), (litS []), (.bool true)])),
  ([(litS [108, 111, 111, 112, 58, 32, 100, 101, 99, 32, 97]), (litS [])],
   (.tup [(.agg [(litS [99, 111, 100, 101]), (litS [108, 111, 111, 112]), (.bool false), .nils, (.deep (.sl 3 [(.sl 1 [(.int .u8 (61))]), .nilp, (.int .u8 (0))]))]), (litS [108, 111, 111, 112]), (.bool true)])),
  ([(litS [32, 106, 114, 32, 110, 122, 44, 32, 108, 111, 111, 112]), (litS [108, 111, 111, 112])],
   (.tup [(.agg [(litS [99, 111, 100, 101]), (litS []), (.bool false), .nils, (.deep (.sl 3 [(.sl 1 [(.int .u8 (32))]), .nilp, (.int .u8 (0)), .nils, (.ptr [(.str [110, 97, 109, 101]), (.int .i64 (8)), (.int .i64 (0)), (.str [108, 111, 111, 112]), .nils] 0), (.int .u8 (101))]))]), (litS [108, 111, 111, 112]), (.bool true)])),
  ([(litS [46, 101, 110, 100, 58, 32, 100, 98, 32, 34, 72, 105, 34, 44, 32, 104, 105, 103, 104, 40, 108, 111, 111, 112, 46, 101, 110, 100, 41]), (litS [108, 111, 111, 112])],
   (.tup [(.agg [(litS [99, 111, 100, 101]), (litS [108, 111, 111, 112, 46, 101, 110, 100]), (.bool false), .nils, (.deep (.sl 3 [(.sl 1 [(.int .u8 (72)), (.int .u8 (105))]), .nilp, (.int .u8 (0)), .nils, (.ptr [(.str [104, 105, 103, 104]), (.int .i64 (15)), (.int .i64 (0)), (.str []), (.sl 1 [(.ptr [(.str [110, 97, 109, 101]), (.int .i64 (20)), (.int .i64 (0)), (.str [108, 111, 111, 112, 46, 101, 110, 100]), .nils] 0)])] 0), (.int .u8 (98))]))]), (litS [108, 111, 111, 112]), (.bool true)]))]
def lineE (i : Nat) : Bool × FlatV × Unit := (litFn 133 lineTab).mod () i
theorem line_ev0 : (litFn0 133 lineTab).evM (evOf (callS smP) (litFn0 133 lineTab)) () 0 = some (lineE 0) := by kernel_rfl
theorem line_ev1 : (litFn0 133 lineTab).evM (evOf (callS smP) (litFn0 133 lineTab)) () 1 = some (lineE 1) := by kernel_rfl
theorem line_ev2 : (litFn0 133 lineTab).evM (evOf (callS smP) (litFn0 133 lineTab)) () 2 = some (lineE 2) := by kernel_rfl
theorem line_ev3 : (litFn0 133 lineTab).evM (evOf (callS smP) (litFn0 133 lineTab)) () 3 = some (lineE 3) := by kernel_rfl
theorem line_at : SumAt 133 (litFn 133 lineTab).sum := SFn.sound (ev := evOf (callS smP) (litFn0 133 lineTab)) (litFn_ok (fun _ _ => evAt_call (callSOK smP_ok) _ _ _) fun i hi _ => by
  match i, hi with
  | 0, _ => exact line_ev0
  | 1, _ => exact line_ev1
  | 2, _ => exact line_ev2
  | 3, _ => exact line_ev3
  | i + 4, h => exact absurd h (by simp [lineTab]))
noncomputable def smA (f : Nat) : Option Summ := match Nat.beq f 133 with
  | true => some (litFn 133 lineTab).sum
  | false => smP f
theorem smA_ok : ∀ f s, smA f = some s → SumAt f s := sm_cons smP_ok line_at
end Go.Proofs.YtlmacdfbdhpljaaGreatDoor
