/- Own text: numbers with a sign, written by the document. -/
import Derived.Test.YtlmacdfbdhpljaaGreatDoorLw
namespace Go.Proofs.YtlmacdfbdhpljaaGreatDoor
open Go.Ev Go.Ev.Tr Go.Proofs
set_option maxRecDepth 1000000
def digU (n : Nat) : UInt8 := UInt8.ofNat (48 + n)
def decU (n : Nat) : List UInt8 := match Nat.blt n 10 with
  | true => [digU n]
  | false => match Nat.blt n 100 with
    | true => [digU (n / 10), digU (n % 10)]
    | false => [digU (n / 100), digU (n / 10 % 10), digU (n % 10)]
/-- A number between -128 and 127, written. -/
def itoaB (n : Int) : List UInt8 := match n with
  | .ofNat n => decU n
  | .negSucc n => 45 :: decU (n + 1)
noncomputable def decIs (k : Nat) : Bool := match endOf (callA sm1 noRO 107 [.int .i64 (I.lit ((k : Int) - 128))] (startHp 6 1000000)).run with
  | some (.ret (.str l)) => bytesEq (l.map Go.Ev.byteOf) (itoaB ((k : Int) - 128))
  | _ => false
theorem decI0 : allN decIs 64 0 = true := by kernel_rfl
theorem decI1 : allN decIs 64 64 = true := by kernel_rfl
theorem decI2 : allN decIs 64 128 = true := by kernel_rfl
theorem decI3 : allN decIs 64 192 = true := by kernel_rfl
theorem decU_eq {n : Nat} (h : n < 1000) : decU n = Lib.decDigits n := by
  unfold decU
  by_cases h1 : n < 10
  · rw [show Nat.blt n 10 = true from Nat.ble_eq_true_of_le h1, Lib.decDigits, dif_pos h1]; rfl
  · have e1 : Nat.blt n 10 = false := by
      cases hb : Nat.blt n 10 with
      | false => rfl
      | true => exact absurd (Nat.le_of_ble_eq_true hb) h1
    rw [e1, Lib.decDigits, dif_neg h1]
    by_cases h2 : n < 100
    · rw [show Nat.blt n 100 = true from Nat.ble_eq_true_of_le h2, Lib.decDigits, dif_pos (by omega)]; rfl
    · have e2 : Nat.blt n 100 = false := by
        cases hb : Nat.blt n 100 with
        | false => rfl
        | true => exact absurd (Nat.le_of_ble_eq_true hb) h2
      rw [e2, Lib.decDigits, dif_neg (by omega), Lib.decDigits, dif_pos (by omega), Nat.div_div_eq_div_mul]; rfl
theorem itoaB_eq {n : Int} (h0 : -128 ≤ n) (h1 : n ≤ 127) : itoaB n = Lib.itoa n := by
  unfold Lib.itoa itoaB
  cases n with
  | ofNat m =>
    rw [if_neg (by simp)]
    exact decU_eq (by have : (m : Int) ≤ 127 := h1; omega)
  | negSucc m =>
    rw [if_pos (Int.negSucc_lt_zero m)]
    have : m + 1 < 1000 := by
      have : (-128 : Int) ≤ Int.negSucc m := h0
      omega
    show 45 :: decU (m + 1) = 45 :: Lib.decDigits (m + 1)
    rw [decU_eq this]
def decSumR : Summ := fun _ hp args => match args with
  | [.int k i] => match decide (k = .i64) && ile (-128) i.lo && ile i.hi 127 with
    | true => .ret (.ret (.ssym (Lib.itoa i.n)), hp)
    | false => .fail
  | _ => .fail
theorem decR_at : SumAt 107 decSumR := by
  intro ro hp args r hr w0 F ρ w l hrel hl
  unfold decSumR at hr
  split at hr <;> try (cases hr; done)
  rename_i k i
  split at hr <;> try (cases hr; done)
  rename_i hc
  injection hr with hr; subst hr
  simp only [Bool.and_eq_true, decide_eq_true_eq, ile_iff] at hc
  obtain ⟨⟨rfl, h1⟩, h2⟩ := hc
  obtain ⟨x, xs, rfl, ⟨m, rfl, hm⟩, hn⟩ := hl
  have hxs : xs = [] := hn
  subst hxs
  have hm1 := hm.1
  have hm2 := hm.2
  have hlo : -128 ≤ m := by omega
  have hhi : m ≤ 127 := by omega
  obtain ⟨j, hj⟩ := Int.eq_ofNat_of_zero_le (show 0 ≤ m + 128 by omega)
  have e : ((j : Int) - 128) = m := by omega
  have hb : decIs j = true := by
    by_cases a : j < 64
    · have := allN_get decI0 j a
      rw [Nat.zero_add] at this; exact this
    by_cases b : j < 128
    · have := allN_get decI1 (j - 64) (by omega)
      rw [show 64 + (j - 64) = j by omega] at this; exact this
    by_cases c : j < 192
    · have := allN_get decI2 (j - 128) (by omega)
      rw [show 128 + (j - 128) = j by omega] at this; exact this
    · have := allN_get decI3 (j - 192) (by omega)
      rw [show 192 + (j - 192) = j by omega] at this; exact this
  unfold decIs at hb
  rw [e] at hb
  split at hb <;> try (cases hb; done)
  rename_i l he
  have hb1 := bytesEq_iff.1 hb
  obtain ⟨hp2, h4⟩ := endOf_some he
  obtain ⟨g1, g2⟩ := pureCall (callAOK sm1_ok) h4 rfl rfl hrel (l := [.int .i64 m]) ⟨_, [], rfl, ⟨m, rfl, IR.lit m⟩, rfl⟩
  refine ⟨g1, g2.mono fun en w' ⟨ρ', q1, q2, x, q3, q4⟩ => ⟨ρ', q1, q2, x, q3, ?_⟩⟩
  obtain ⟨rfl, _⟩ := q4
  refine ⟨?_, ?_⟩
  · rw [← hm1, ← itoaB_eq hlo hhi, hb1]
  · rw [← hm1]
    have := Lib.itoa_length_le m (by omega) (by omega)
    omega
end Go.Proofs.YtlmacdfbdhpljaaGreatDoor
