/- Own text: AsmTimed's runs. -/
import Derived.Test.YtlmacdfbdhpljaaGreatDoorPk
namespace Go.Proofs.YtlmacdfbdhpljaaGreatDoor
open Go.Ev Go.Ev.Tr Go.Proofs
set_option maxRecDepth 1000000
noncomputable def smT (f : Nat) : Option Summ := match Nat.beq f 15 with
  | true => some (trueSum noArgs)
  | false => match Nat.beq f 124 with
    | true => some itoaSum
    | false => match Nat.beq f 17 with
      | true => some pickSum
      | false => sm1 f
theorem smT_ok : ∀ f s, smT f = some s → SumAt f s := sm_cons (sm_cons (sm_cons sm1_ok pick_at) itoa_at) awake_at
noncomputable def tmT (k : Nat) (b : V) (t o : Int) : T (AEnd × Hp) := callA smT ro10 6 [.int .u8 (I.lit k), b, u8a t, i64a o] (startHp 6 1000000)
theorem leaf_run' {t : T (AEnd × Hp)} {b : Bool} (h : (t.bind fun r => T.ret (leafT' r)).run = some b) (hb : b = true) : trueB t.run = true := by
  obtain ⟨⟨e, hp⟩, h1, h2⟩ := T.run_bind_some h
  injection h2 with h2
  rw [hb] at h2
  rw [h1]
  unfold leafT' at h2
  unfold trueB
  simp only [endOf]
  simp only at h2
  split at h2 <;> simp_all
theorem wrap8_in (s : Int) : -9223372036854775808 ≤ IntKind.i8.wrap s ∧ IntKind.i8.wrap s ≤ 9223372036854775807 := by
  have h := wrap_in .i8 s
  have a : kmin .i8 = -128 := rfl
  have b : kmax .i8 = 127 := rfl
  omega
theorem itoa8_len (s : Int) : (Lib.itoa (IntKind.i8.wrap s)).length ≤ 21 := Lib.itoa_length_le _ (wrap8_in s).1 (wrap8_in s).2
theorem tmr_232 (s t o : Int) : ((tmT 232 (u8a s) t o).bind fun r => T.ret (leafT' r)).run = (bif decide (8 + (Lib.itoa (IntKind.i8.wrap s)).length ≤ 281474976710656) then
    bif decide (([97, 100, 100, 32, 115, 112, 44, 32] ++ Lib.itoa (IntKind.i8.wrap s)).length + 0 ≤ 281474976710656) then some true else none else none) := by kernel_rfl
theorem tmr_248 (s t o : Int) : ((tmT 248 (u8a s) t o).bind fun r => T.ret (leafT' r)).run = (bif decide (10 + (Lib.itoa (IntKind.i8.wrap s)).length ≤ 281474976710656) then
    bif decide (([108, 100, 32, 104, 108, 44, 32, 115, 112, 43] ++ Lib.itoa (IntKind.i8.wrap s)).length + 0 ≤ 281474976710656) then some true else none else none) := by kernel_rfl
theorem tm_232 (s t o : Int) : trueB (tmT 232 (u8a s) t o).run = true := leaf_run' (b := true) (by
  have := itoa8_len s
  rw [tmr_232, decide_eq_true (by omega), decide_eq_true (by rw [List.length_append]; simp only [List.length_cons, List.length_nil]; omega)]; rfl) rfl
theorem tm_248 (s t o : Int) : trueB (tmT 248 (u8a s) t o).run = true := leaf_run' (b := true) (by
  have := itoa8_len s
  rw [tmr_248, decide_eq_true (by omega), decide_eq_true (by rw [List.length_append]; simp only [List.length_cons, List.length_nil]; omega)]; rfl) rfl
def spec (k : Nat) : Bool := Nat.beq k 16 || (Nat.beq k 203 || (Nat.beq k 232 || Nat.beq k 248))
noncomputable def tm1B (s t o : Int) (k : Nat) : Bool := spec k || T.all leafT' (tmT k (u8a s) t o)
noncomputable def tm2B (t o : Int) (m : Nat) : Bool := T.all leafT' (tmT 203 (.int .u8 (I.lit m)) t o)
theorem tm_16a (t o : Int) : trueB (tmT 16 (.int .u8 (I.lit 0)) t o).run = true := allTrue_run (by kernel_rfl)
theorem tm_16b (s t o : Int) : trueB (tmT 16 (.int .u8 ⟨s, 1, 255⟩) t o).run = true := allTrue_run (by kernel_rfl)
end Go.Proofs.YtlmacdfbdhpljaaGreatDoor
