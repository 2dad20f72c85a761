/- Own text: the texts of AsmReckons, and how a step makes them longer. -/
import Derived.Test.YtlmacdfbdhpljaaGreatDoorSw4
import Derived.Test.YtlmacdfbdhpljaaGreatDoorXx
namespace Go.Proofs.YtlmacdfbdhpljaaGreatDoor
open Go.Ev Go.Ev.Tr Go.Proofs
set_option maxRecDepth 1000000
/-- The operator's writing within a text. -/
def opWr (k : Nat) : List UInt8 := if k < 10 then opH k else [45, 32, 45]
theorem ba_app (a b : List UInt8) : (⟨⟨a⟩⟩ : ByteArray) ++ ⟨⟨b⟩⟩ = ⟨⟨a ++ b⟩⟩ := by
  show ByteArray.append _ _ = _
  apply ByteArray.ext
  simp [ByteArray.append]
theorem wr_tl (k : Nat) (t : Tm) : opH k ++ tlB k t = opWr k ++ (32 :: tmB t) := by
  unfold opWr tlB
  by_cases h : k < 10
  · rw [if_pos h, if_pos h]; rfl
  · rw [if_neg h, if_neg h]
    obtain ⟨j, rfl⟩ : ∃ j, k = j + 10 := ⟨k - 10, by omega⟩
    rfl
theorem eB_cons (k : Nat) (t : Tm) (l : Exp) : eB ((k, t) :: l) = [40] ++ eB l ++ [32] ++ opWr k ++ [32] ++ tmB t ++ [41] := by
  show 40 :: ((eB l ++ ([32] ++ (opH k ++ tlB k t))) ++ [41]) = _
  rw [wr_tl]
  simp
theorem txt_step (k : Nat) (t : Tm) (l : Exp) : (⟨⟨[40]⟩⟩ : ByteArray) ++ ⟨⟨eB l⟩⟩ ++ ⟨⟨[32]⟩⟩ ++ ⟨⟨opWr k⟩⟩ ++ ⟨⟨[32]⟩⟩ ++ ⟨⟨tmB t⟩⟩ ++ ⟨⟨[41]⟩⟩ = ⟨⟨eB ((k, t) :: l)⟩⟩ := by
  simp only [ba_app, eB_cons]
theorem decB_len (n : Nat) : 1 ≤ (decB n).length ∧ (decB n).length ≤ 3 := by
  unfold decB
  split
  · simp
  · split <;> simp
theorem tmB_len (t : Tm) : (tmB t).length ≤ 3 := by
  cases t with
  | num n => exact (decB_len n).2
  | nm i => simp [tmB]
theorem opWr_len (k : Nat) : (opWr k).length ≤ 3 := by
  unfold opWr
  split
  · rename_i h
    have h : k = 0 ∨ k = 1 ∨ k = 2 ∨ k = 3 ∨ k = 4 ∨ k = 5 ∨ k = 6 ∨ k = 7 ∨ k = 8 ∨ k = 9 := by omega
    rcases h with rfl | rfl | rfl | rfl | rfl | rfl | rfl | rfl | rfl | rfl <;> decide
  · decide
theorem eB_len : ∀ l : Exp, (eB l).length ≤ 1 + 10 * l.length
  | [] => by decide
  | (k, t) :: l => by
    have h1 := eB_len l
    have h2 := tmB_len t
    have h3 := opWr_len k
    rw [eB_cons]
    simp only [List.length_append, List.length_cons, List.length_nil]
    omega
theorem hlB_len (l : Exp) : (hlB l).length = 2 * (eB l).length + 16 := by
  unfold hlB hiB loB
  simp only [List.length_append, List.length_cons, List.length_nil]
  omega
end Go.Proofs.YtlmacdfbdhpljaaGreatDoor
