/- Own text: asm.Info's answers as a table: run in the kernel. -/
import Derived.Test.YtmlfmkebljdoiaaGreatDoorTt
namespace Go.Proofs.YtmlfmkebljdoiaaGreatDoor
open Go.Ev Go.Ev.Tr Go.Proofs
set_option maxRecDepth 1000000
def i64L (n : Nat) : V := .int .i64 (I.lit n)
def infoAt (r : IRow) : V := .tup [.agg [.str (r.1.map fun n => I.lit (n : Nat)), i64L r.2.1, i64L r.2.2.1, i64L r.2.2.2.1], i64L r.2.2.2.2]
noncomputable def infoRun (k : Nat) (b : Bool) : Option (AEnd × Hp) := (call0 noRO 40 [.int .i64 (I.lit (k : Nat)), .bool b] (startHp 2 1000000)).run
noncomputable def infoOk (b : Bool) (k : Nat) : Bool := retIs (infoAt (infoTab.getD (k + bif b then 256 else 0) ([], 0, 0, 0, 0))) (infoRun k b)
theorem in_false0 : allN (infoOk false) 32 0 = true := by kernel_rfl
theorem in_false1 : allN (infoOk false) 32 32 = true := by kernel_rfl
theorem in_false2 : allN (infoOk false) 32 64 = true := by kernel_rfl
theorem in_false3 : allN (infoOk false) 32 96 = true := by kernel_rfl
theorem in_false4 : allN (infoOk false) 32 128 = true := by kernel_rfl
theorem in_false5 : allN (infoOk false) 32 160 = true := by kernel_rfl
theorem in_false6 : allN (infoOk false) 32 192 = true := by kernel_rfl
theorem in_false7 : allN (infoOk false) 32 224 = true := by kernel_rfl
theorem in_true0 : allN (infoOk true) 32 0 = true := by kernel_rfl
theorem in_true1 : allN (infoOk true) 32 32 = true := by kernel_rfl
theorem in_true2 : allN (infoOk true) 32 64 = true := by kernel_rfl
theorem in_true3 : allN (infoOk true) 32 96 = true := by kernel_rfl
theorem in_true4 : allN (infoOk true) 32 128 = true := by kernel_rfl
theorem in_true5 : allN (infoOk true) 32 160 = true := by kernel_rfl
theorem in_true6 : allN (infoOk true) 32 192 = true := by kernel_rfl
theorem in_true7 : allN (infoOk true) 32 224 = true := by kernel_rfl
theorem info_all (b : Bool) (k : Nat) (hk : k < 256) : infoOk b k = true := by
  obtain ⟨q, r, e, hr⟩ : ∃ q r, k = 32 * q + r ∧ r < 32 := ⟨k / 32, k % 32, by omega, by omega⟩
  subst e
  have hq : q = 0 ∨ q = 1 ∨ q = 2 ∨ q = 3 ∨ q = 4 ∨ q = 5 ∨ q = 6 ∨ q = 7 := by omega
  cases b
  · rcases hq with rfl | rfl | rfl | rfl | rfl | rfl | rfl | rfl
    · exact allN_get in_false0 r hr
    · exact allN_get in_false1 r hr
    · exact allN_get in_false2 r hr
    · exact allN_get in_false3 r hr
    · exact allN_get in_false4 r hr
    · exact allN_get in_false5 r hr
    · exact allN_get in_false6 r hr
    · exact allN_get in_false7 r hr
  · rcases hq with rfl | rfl | rfl | rfl | rfl | rfl | rfl | rfl
    · exact allN_get in_true0 r hr
    · exact allN_get in_true1 r hr
    · exact allN_get in_true2 r hr
    · exact allN_get in_true3 r hr
    · exact allN_get in_true4 r hr
    · exact allN_get in_true5 r hr
    · exact allN_get in_true6 r hr
    · exact allN_get in_true7 r hr
end Go.Proofs.YtmlfmkebljdoiaaGreatDoor
