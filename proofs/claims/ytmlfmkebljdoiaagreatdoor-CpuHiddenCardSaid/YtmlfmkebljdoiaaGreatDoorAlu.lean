/- Own text, written by a program of mine: that the functions of arcade/alu return numbers, whatever the numbers given. -/
import Derived.Test.YtmlfmkebljdoiaaGreatDoorSum
namespace Go.Proofs.YtmlfmkebljdoiaaGreatDoor
open Go.Ev Go.Ev.Tr Go.Proofs
set_option maxRecDepth 1000000
def idleC : List V := [.int .i64 (I.lit 0), .int .i64 (I.lit 0), .int .i64 (I.lit 0)]
def maskC : List V := [.int .u8 (I.lit 1), .int .u8 (I.lit 2), .int .u8 (I.lit 4), .int .u8 (I.lit 8), .int .u8 (I.lit 16), .int .u8 (I.lit 32), .int .u8 (I.lit 64), .int .u8 (I.lit 128)]
/-- What the package-level variables hold. -/
def ro0 : RO := fun id => match Nat.beq id 0 with
  | true => some (.cells idleC)
  | false => match Nat.beq id 1 with
    | true => some (.cells maskC)
    | false => none
noncomputable def allK (ks : List IntKind) (f : Nat) (us : List V) : Bool := T.all (retK ks) (call0 ro0 f us (startHp 2 1000000))
theorem arith_all0 : (fun x0 x1 x2 => allK [.u8, .u8] 17 [.int .i64 (I.lit (0 : Nat)), kb .u8 x0, kb .u8 x1, kb .u8 x2]) = (fun _ _ _ => true) := by kernel_rfl
theorem arith_all1 : (fun x0 x1 x2 => allK [.u8, .u8] 17 [.int .i64 (I.lit (1 : Nat)), kb .u8 x0, kb .u8 x1, kb .u8 x2]) = (fun _ _ _ => true) := by kernel_rfl
theorem arith_all2 : (fun x0 x1 x2 => allK [.u8, .u8] 17 [.int .i64 (I.lit (2 : Nat)), kb .u8 x0, kb .u8 x1, kb .u8 x2]) = (fun _ _ _ => true) := by kernel_rfl
theorem arith_all3 : (fun x0 x1 x2 => allK [.u8, .u8] 17 [.int .i64 (I.lit (3 : Nat)), kb .u8 x0, kb .u8 x1, kb .u8 x2]) = (fun _ _ _ => true) := by kernel_rfl
theorem arith_all4 : (fun x0 x1 x2 => allK [.u8, .u8] 17 [.int .i64 (I.lit (4 : Nat)), kb .u8 x0, kb .u8 x1, kb .u8 x2]) = (fun _ _ _ => true) := by kernel_rfl
theorem arith_all5 : (fun x0 x1 x2 => allK [.u8, .u8] 17 [.int .i64 (I.lit (5 : Nat)), kb .u8 x0, kb .u8 x1, kb .u8 x2]) = (fun _ _ _ => true) := by kernel_rfl
theorem arith_all6 : (fun x0 x1 x2 => allK [.u8, .u8] 17 [.int .i64 (I.lit (6 : Nat)), kb .u8 x0, kb .u8 x1, kb .u8 x2]) = (fun _ _ _ => true) := by kernel_rfl
theorem arith_all7 : (fun x0 x1 x2 => allK [.u8, .u8] 17 [.int .i64 (I.lit (7 : Nat)), kb .u8 x0, kb .u8 x1, kb .u8 x2]) = (fun _ _ _ => true) := by kernel_rfl
theorem arith_total : ∀ us, Normal [.lit .i64 7, .any .u8, .any .u8, .any .u8] us → allK [.u8, .u8] 17 us = true := by
  intro us h
  obtain ⟨m, _, hm, rfl, x0, _, rfl, x1, _, rfl, x2, _, rfl, h⟩ := h
  simp only [Normal] at h; subst h
  have : m = 0 ∨ m = 1 ∨ m = 2 ∨ m = 3 ∨ m = 4 ∨ m = 5 ∨ m = 6 ∨ m = 7 := by omega
  rcases this with rfl | rfl | rfl | rfl | rfl | rfl | rfl | rfl
  · exact congrFun (congrFun (congrFun (arith_all0) x0) x1) x2
  · exact congrFun (congrFun (congrFun (arith_all1) x0) x1) x2
  · exact congrFun (congrFun (congrFun (arith_all2) x0) x1) x2
  · exact congrFun (congrFun (congrFun (arith_all3) x0) x1) x2
  · exact congrFun (congrFun (congrFun (arith_all4) x0) x1) x2
  · exact congrFun (congrFun (congrFun (arith_all5) x0) x1) x2
  · exact congrFun (congrFun (congrFun (arith_all6) x0) x1) x2
  · exact congrFun (congrFun (congrFun (arith_all7) x0) x1) x2
theorem step_all0 : (fun x0 x1 => allK [.u8, .u8] 22 [.int .i64 (I.lit (0 : Nat)), kb .u8 x0, kb .u8 x1]) = (fun _ _ => true) := by kernel_rfl
theorem step_all1 : (fun x0 x1 => allK [.u8, .u8] 22 [.int .i64 (I.lit (1 : Nat)), kb .u8 x0, kb .u8 x1]) = (fun _ _ => true) := by kernel_rfl
theorem step_total : ∀ us, Normal [.lit .i64 1, .any .u8, .any .u8] us → allK [.u8, .u8] 22 us = true := by
  intro us h
  obtain ⟨m, _, hm, rfl, x0, _, rfl, x1, _, rfl, h⟩ := h
  simp only [Normal] at h; subst h
  have : m = 0 ∨ m = 1 := by omega
  rcases this with rfl | rfl
  · exact congrFun (congrFun (step_all0) x0) x1
  · exact congrFun (congrFun (step_all1) x0) x1
theorem turn_all0 : (fun x0 x1 => allK [.u8, .u8] 23 [.int .i64 (I.lit (0 : Nat)), kb .u8 x0, kb .u8 x1]) = (fun _ _ => true) := by kernel_rfl
theorem turn_all1 : (fun x0 x1 => allK [.u8, .u8] 23 [.int .i64 (I.lit (1 : Nat)), kb .u8 x0, kb .u8 x1]) = (fun _ _ => true) := by kernel_rfl
theorem turn_all2 : (fun x0 x1 => allK [.u8, .u8] 23 [.int .i64 (I.lit (2 : Nat)), kb .u8 x0, kb .u8 x1]) = (fun _ _ => true) := by kernel_rfl
theorem turn_all3 : (fun x0 x1 => allK [.u8, .u8] 23 [.int .i64 (I.lit (3 : Nat)), kb .u8 x0, kb .u8 x1]) = (fun _ _ => true) := by kernel_rfl
theorem turn_all4 : (fun x0 x1 => allK [.u8, .u8] 23 [.int .i64 (I.lit (4 : Nat)), kb .u8 x0, kb .u8 x1]) = (fun _ _ => true) := by kernel_rfl
theorem turn_all5 : (fun x0 x1 => allK [.u8, .u8] 23 [.int .i64 (I.lit (5 : Nat)), kb .u8 x0, kb .u8 x1]) = (fun _ _ => true) := by kernel_rfl
theorem turn_all6 : (fun x0 x1 => allK [.u8, .u8] 23 [.int .i64 (I.lit (6 : Nat)), kb .u8 x0, kb .u8 x1]) = (fun _ _ => true) := by kernel_rfl
theorem turn_all7 : (fun x0 x1 => allK [.u8, .u8] 23 [.int .i64 (I.lit (7 : Nat)), kb .u8 x0, kb .u8 x1]) = (fun _ _ => true) := by kernel_rfl
theorem turn_total : ∀ us, Normal [.lit .i64 7, .any .u8, .any .u8] us → allK [.u8, .u8] 23 us = true := by
  intro us h
  obtain ⟨m, _, hm, rfl, x0, _, rfl, x1, _, rfl, h⟩ := h
  simp only [Normal] at h; subst h
  have : m = 0 ∨ m = 1 ∨ m = 2 ∨ m = 3 ∨ m = 4 ∨ m = 5 ∨ m = 6 ∨ m = 7 := by omega
  rcases this with rfl | rfl | rfl | rfl | rfl | rfl | rfl | rfl
  · exact congrFun (congrFun (turn_all0) x0) x1
  · exact congrFun (congrFun (turn_all1) x0) x1
  · exact congrFun (congrFun (turn_all2) x0) x1
  · exact congrFun (congrFun (turn_all3) x0) x1
  · exact congrFun (congrFun (turn_all4) x0) x1
  · exact congrFun (congrFun (turn_all5) x0) x1
  · exact congrFun (congrFun (turn_all6) x0) x1
  · exact congrFun (congrFun (turn_all7) x0) x1
theorem shift_all0 : (fun x0 x1 => allK [.u8, .u8] 46 [.int .i64 (I.lit (0 : Nat)), kb .u8 x0, kb .u8 x1]) = (fun _ _ => true) := by kernel_rfl
theorem shift_all1 : (fun x0 x1 => allK [.u8, .u8] 46 [.int .i64 (I.lit (1 : Nat)), kb .u8 x0, kb .u8 x1]) = (fun _ _ => true) := by kernel_rfl
theorem shift_all2 : (fun x0 x1 => allK [.u8, .u8] 46 [.int .i64 (I.lit (2 : Nat)), kb .u8 x0, kb .u8 x1]) = (fun _ _ => true) := by kernel_rfl
theorem shift_all3 : (fun x0 x1 => allK [.u8, .u8] 46 [.int .i64 (I.lit (3 : Nat)), kb .u8 x0, kb .u8 x1]) = (fun _ _ => true) := by kernel_rfl
theorem shift_all4 : (fun x0 x1 => allK [.u8, .u8] 46 [.int .i64 (I.lit (4 : Nat)), kb .u8 x0, kb .u8 x1]) = (fun _ _ => true) := by kernel_rfl
theorem shift_all5 : (fun x0 x1 => allK [.u8, .u8] 46 [.int .i64 (I.lit (5 : Nat)), kb .u8 x0, kb .u8 x1]) = (fun _ _ => true) := by kernel_rfl
theorem shift_all6 : (fun x0 x1 => allK [.u8, .u8] 46 [.int .i64 (I.lit (6 : Nat)), kb .u8 x0, kb .u8 x1]) = (fun _ _ => true) := by kernel_rfl
theorem shift_all7 : (fun x0 x1 => allK [.u8, .u8] 46 [.int .i64 (I.lit (7 : Nat)), kb .u8 x0, kb .u8 x1]) = (fun _ _ => true) := by kernel_rfl
theorem shift_total : ∀ us, Normal [.lit .i64 7, .any .u8, .any .u8] us → allK [.u8, .u8] 46 us = true := by
  intro us h
  obtain ⟨m, _, hm, rfl, x0, _, rfl, x1, _, rfl, h⟩ := h
  simp only [Normal] at h; subst h
  have : m = 0 ∨ m = 1 ∨ m = 2 ∨ m = 3 ∨ m = 4 ∨ m = 5 ∨ m = 6 ∨ m = 7 := by omega
  rcases this with rfl | rfl | rfl | rfl | rfl | rfl | rfl | rfl
  · exact congrFun (congrFun (shift_all0) x0) x1
  · exact congrFun (congrFun (shift_all1) x0) x1
  · exact congrFun (congrFun (shift_all2) x0) x1
  · exact congrFun (congrFun (shift_all3) x0) x1
  · exact congrFun (congrFun (shift_all4) x0) x1
  · exact congrFun (congrFun (shift_all5) x0) x1
  · exact congrFun (congrFun (shift_all6) x0) x1
  · exact congrFun (congrFun (shift_all7) x0) x1
theorem addOffset_all : (fun x0 x1 => allK [.u16, .u8] 24 [kb .u16 x0, kb .u8 x1]) = (fun _ _ => true) := by kernel_rfl
theorem addOffset_total : ∀ us, Normal [.any .u16, .any .u8] us → allK [.u16, .u8] 24 us = true := by
  intro us h
  obtain ⟨x0, _, rfl, x1, _, rfl, h⟩ := h
  simp only [Normal] at h; subst h
  exact congrFun (congrFun (addOffset_all) x0) x1
theorem addWord_all : (fun x0 x1 x2 => allK [.u16, .u8] 146 [kb .u16 x0, kb .u16 x1, kb .u8 x2]) = (fun _ _ _ => true) := by kernel_rfl
theorem addWord_total : ∀ us, Normal [.any .u16, .any .u16, .any .u8] us → allK [.u16, .u8] 146 us = true := by
  intro us h
  obtain ⟨x0, _, rfl, x1, _, rfl, x2, _, rfl, h⟩ := h
  simp only [Normal] at h; subst h
  exact congrFun (congrFun (congrFun (addWord_all) x0) x1) x2
theorem bit_all0 : (fun x0 x1 => allK [.u8] 163 [.int .i64 (I.lit (0 : Nat)), kb .u8 x0, kb .u8 x1]) = (fun _ _ => true) := by kernel_rfl
theorem bit_all1 : (fun x0 x1 => allK [.u8] 163 [.int .i64 (I.lit (1 : Nat)), kb .u8 x0, kb .u8 x1]) = (fun _ _ => true) := by kernel_rfl
theorem bit_all2 : (fun x0 x1 => allK [.u8] 163 [.int .i64 (I.lit (2 : Nat)), kb .u8 x0, kb .u8 x1]) = (fun _ _ => true) := by kernel_rfl
theorem bit_all3 : (fun x0 x1 => allK [.u8] 163 [.int .i64 (I.lit (3 : Nat)), kb .u8 x0, kb .u8 x1]) = (fun _ _ => true) := by kernel_rfl
theorem bit_all4 : (fun x0 x1 => allK [.u8] 163 [.int .i64 (I.lit (4 : Nat)), kb .u8 x0, kb .u8 x1]) = (fun _ _ => true) := by kernel_rfl
theorem bit_all5 : (fun x0 x1 => allK [.u8] 163 [.int .i64 (I.lit (5 : Nat)), kb .u8 x0, kb .u8 x1]) = (fun _ _ => true) := by kernel_rfl
theorem bit_all6 : (fun x0 x1 => allK [.u8] 163 [.int .i64 (I.lit (6 : Nat)), kb .u8 x0, kb .u8 x1]) = (fun _ _ => true) := by kernel_rfl
theorem bit_all7 : (fun x0 x1 => allK [.u8] 163 [.int .i64 (I.lit (7 : Nat)), kb .u8 x0, kb .u8 x1]) = (fun _ _ => true) := by kernel_rfl
theorem bit_total : ∀ us, Normal [.lit .i64 7, .any .u8, .any .u8] us → allK [.u8] 163 us = true := by
  intro us h
  obtain ⟨m, _, hm, rfl, x0, _, rfl, x1, _, rfl, h⟩ := h
  simp only [Normal] at h; subst h
  have : m = 0 ∨ m = 1 ∨ m = 2 ∨ m = 3 ∨ m = 4 ∨ m = 5 ∨ m = 6 ∨ m = 7 := by omega
  rcases this with rfl | rfl | rfl | rfl | rfl | rfl | rfl | rfl
  · exact congrFun (congrFun (bit_all0) x0) x1
  · exact congrFun (congrFun (bit_all1) x0) x1
  · exact congrFun (congrFun (bit_all2) x0) x1
  · exact congrFun (congrFun (bit_all3) x0) x1
  · exact congrFun (congrFun (bit_all4) x0) x1
  · exact congrFun (congrFun (bit_all5) x0) x1
  · exact congrFun (congrFun (bit_all6) x0) x1
  · exact congrFun (congrFun (bit_all7) x0) x1
theorem res_all0 : (fun x0 => allK [.u8] 164 [.int .i64 (I.lit (0 : Nat)), kb .u8 x0]) = (fun _ => true) := by kernel_rfl
theorem res_all1 : (fun x0 => allK [.u8] 164 [.int .i64 (I.lit (1 : Nat)), kb .u8 x0]) = (fun _ => true) := by kernel_rfl
theorem res_all2 : (fun x0 => allK [.u8] 164 [.int .i64 (I.lit (2 : Nat)), kb .u8 x0]) = (fun _ => true) := by kernel_rfl
theorem res_all3 : (fun x0 => allK [.u8] 164 [.int .i64 (I.lit (3 : Nat)), kb .u8 x0]) = (fun _ => true) := by kernel_rfl
theorem res_all4 : (fun x0 => allK [.u8] 164 [.int .i64 (I.lit (4 : Nat)), kb .u8 x0]) = (fun _ => true) := by kernel_rfl
theorem res_all5 : (fun x0 => allK [.u8] 164 [.int .i64 (I.lit (5 : Nat)), kb .u8 x0]) = (fun _ => true) := by kernel_rfl
theorem res_all6 : (fun x0 => allK [.u8] 164 [.int .i64 (I.lit (6 : Nat)), kb .u8 x0]) = (fun _ => true) := by kernel_rfl
theorem res_all7 : (fun x0 => allK [.u8] 164 [.int .i64 (I.lit (7 : Nat)), kb .u8 x0]) = (fun _ => true) := by kernel_rfl
theorem res_total : ∀ us, Normal [.lit .i64 7, .any .u8] us → allK [.u8] 164 us = true := by
  intro us h
  obtain ⟨m, _, hm, rfl, x0, _, rfl, h⟩ := h
  simp only [Normal] at h; subst h
  have : m = 0 ∨ m = 1 ∨ m = 2 ∨ m = 3 ∨ m = 4 ∨ m = 5 ∨ m = 6 ∨ m = 7 := by omega
  rcases this with rfl | rfl | rfl | rfl | rfl | rfl | rfl | rfl
  · exact congrFun (res_all0) x0
  · exact congrFun (res_all1) x0
  · exact congrFun (res_all2) x0
  · exact congrFun (res_all3) x0
  · exact congrFun (res_all4) x0
  · exact congrFun (res_all5) x0
  · exact congrFun (res_all6) x0
  · exact congrFun (res_all7) x0
theorem set_all0 : (fun x0 => allK [.u8] 165 [.int .i64 (I.lit (0 : Nat)), kb .u8 x0]) = (fun _ => true) := by kernel_rfl
theorem set_all1 : (fun x0 => allK [.u8] 165 [.int .i64 (I.lit (1 : Nat)), kb .u8 x0]) = (fun _ => true) := by kernel_rfl
theorem set_all2 : (fun x0 => allK [.u8] 165 [.int .i64 (I.lit (2 : Nat)), kb .u8 x0]) = (fun _ => true) := by kernel_rfl
theorem set_all3 : (fun x0 => allK [.u8] 165 [.int .i64 (I.lit (3 : Nat)), kb .u8 x0]) = (fun _ => true) := by kernel_rfl
theorem set_all4 : (fun x0 => allK [.u8] 165 [.int .i64 (I.lit (4 : Nat)), kb .u8 x0]) = (fun _ => true) := by kernel_rfl
theorem set_all5 : (fun x0 => allK [.u8] 165 [.int .i64 (I.lit (5 : Nat)), kb .u8 x0]) = (fun _ => true) := by kernel_rfl
theorem set_all6 : (fun x0 => allK [.u8] 165 [.int .i64 (I.lit (6 : Nat)), kb .u8 x0]) = (fun _ => true) := by kernel_rfl
theorem set_all7 : (fun x0 => allK [.u8] 165 [.int .i64 (I.lit (7 : Nat)), kb .u8 x0]) = (fun _ => true) := by kernel_rfl
theorem set_total : ∀ us, Normal [.lit .i64 7, .any .u8] us → allK [.u8] 165 us = true := by
  intro us h
  obtain ⟨m, _, hm, rfl, x0, _, rfl, h⟩ := h
  simp only [Normal] at h; subst h
  have : m = 0 ∨ m = 1 ∨ m = 2 ∨ m = 3 ∨ m = 4 ∨ m = 5 ∨ m = 6 ∨ m = 7 := by omega
  rcases this with rfl | rfl | rfl | rfl | rfl | rfl | rfl | rfl
  · exact congrFun (set_all0) x0
  · exact congrFun (set_all1) x0
  · exact congrFun (set_all2) x0
  · exact congrFun (set_all3) x0
  · exact congrFun (set_all4) x0
  · exact congrFun (set_all5) x0
  · exact congrFun (set_all6) x0
  · exact congrFun (set_all7) x0
end Go.Proofs.YtmlfmkebljdoiaaGreatDoor
