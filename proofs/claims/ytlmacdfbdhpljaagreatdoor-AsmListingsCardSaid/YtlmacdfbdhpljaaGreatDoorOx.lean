/- Own text: the document's instruction at the front of some bytes, in any memory. -/
import Derived.Test.YtlmacdfbdhpljaaGreatDoorOp0
import Derived.Test.YtlmacdfbdhpljaaGreatDoorOp1
import Derived.Test.YtlmacdfbdhpljaaGreatDoorOp2
import Derived.Test.YtlmacdfbdhpljaaGreatDoorOp3
import Derived.Test.YtlmacdfbdhpljaaGreatDoorOpB
import Derived.Test.YtlmacdfbdhpljaaGreatDoorOq
namespace Go.Proofs.YtlmacdfbdhpljaaGreatDoor
open Go.Ev Go.Ev.Tr Go.Proofs
set_option maxRecDepth 1000000
theorem rL_all (b1 b2 len org : Int) (k : Nat) (hk : k < 256) : toldL true b1 b2 len org k = expLR true b1 b2 org k := by
  by_cases h0 : k < 8
  · exact mapAt (rL_0a b1 b2 len org) k (by omega) (by omega)
  by_cases h8 : k < 16
  · exact mapAt (rL_0b b1 b2 len org) k (by omega) (by omega)
  by_cases h16 : k < 24
  · exact mapAt (rL_1a b1 b2 len org) k (by omega) (by omega)
  by_cases h24 : k < 32
  · exact mapAt (rL_1b b1 b2 len org) k (by omega) (by omega)
  by_cases h32 : k < 40
  · exact mapAt (rL_2a b1 b2 len org) k (by omega) (by omega)
  by_cases h40 : k < 48
  · exact mapAt (rL_2b b1 b2 len org) k (by omega) (by omega)
  by_cases h48 : k < 56
  · exact mapAt (rL_3a b1 b2 len org) k (by omega) (by omega)
  by_cases h56 : k < 64
  · exact mapAt (rL_3b b1 b2 len org) k (by omega) (by omega)
  by_cases h64 : k < 72
  · exact mapAt (rL_4a b1 b2 len org) k (by omega) (by omega)
  by_cases h72 : k < 80
  · exact mapAt (rL_4b b1 b2 len org) k (by omega) (by omega)
  by_cases h80 : k < 88
  · exact mapAt (rL_5a b1 b2 len org) k (by omega) (by omega)
  by_cases h88 : k < 96
  · exact mapAt (rL_5b b1 b2 len org) k (by omega) (by omega)
  by_cases h96 : k < 104
  · exact mapAt (rL_6a b1 b2 len org) k (by omega) (by omega)
  by_cases h104 : k < 112
  · exact mapAt (rL_6b b1 b2 len org) k (by omega) (by omega)
  by_cases h112 : k < 120
  · exact mapAt (rL_7a b1 b2 len org) k (by omega) (by omega)
  by_cases h120 : k < 128
  · exact mapAt (rL_7b b1 b2 len org) k (by omega) (by omega)
  by_cases h128 : k < 136
  · exact mapAt (rL_8a b1 b2 len org) k (by omega) (by omega)
  by_cases h136 : k < 144
  · exact mapAt (rL_8b b1 b2 len org) k (by omega) (by omega)
  by_cases h144 : k < 152
  · exact mapAt (rL_9a b1 b2 len org) k (by omega) (by omega)
  by_cases h152 : k < 160
  · exact mapAt (rL_9b b1 b2 len org) k (by omega) (by omega)
  by_cases h160 : k < 168
  · exact mapAt (rL_10a b1 b2 len org) k (by omega) (by omega)
  by_cases h168 : k < 176
  · exact mapAt (rL_10b b1 b2 len org) k (by omega) (by omega)
  by_cases h176 : k < 184
  · exact mapAt (rL_11a b1 b2 len org) k (by omega) (by omega)
  by_cases h184 : k < 192
  · exact mapAt (rL_11b b1 b2 len org) k (by omega) (by omega)
  by_cases h192 : k < 200
  · exact mapAt (rL_12a b1 b2 len org) k (by omega) (by omega)
  by_cases h200 : k < 208
  · exact mapAt (rL_12b b1 b2 len org) k (by omega) (by omega)
  by_cases h208 : k < 216
  · exact mapAt (rL_13a b1 b2 len org) k (by omega) (by omega)
  by_cases h216 : k < 224
  · exact mapAt (rL_13b b1 b2 len org) k (by omega) (by omega)
  by_cases h224 : k < 232
  · exact mapAt (rL_14a b1 b2 len org) k (by omega) (by omega)
  by_cases h232 : k < 240
  · exact mapAt (rL_14b b1 b2 len org) k (by omega) (by omega)
  by_cases h240 : k < 248
  · exact mapAt (rL_15a b1 b2 len org) k (by omega) (by omega)
  by_cases h248 : k < 256
  · exact mapAt (rL_15b b1 b2 len org) k (by omega) (by omega)
  omega
theorem rM_all (b1 b2 len org : Int) (k : Nat) (hk : k < 256) : toldM false b1 b2 len org k = expMR false b1 b2 org k := by
  by_cases h0 : k < 16
  · exact mapAt (rM_0 b1 b2 len org) k (by omega) (by omega)
  by_cases h16 : k < 32
  · exact mapAt (rM_1 b1 b2 len org) k (by omega) (by omega)
  by_cases h32 : k < 48
  · exact mapAt (rM_2 b1 b2 len org) k (by omega) (by omega)
  by_cases h48 : k < 64
  · exact mapAt (rM_3 b1 b2 len org) k (by omega) (by omega)
  by_cases h64 : k < 80
  · exact mapAt (rM_4 b1 b2 len org) k (by omega) (by omega)
  by_cases h80 : k < 96
  · exact mapAt (rM_5 b1 b2 len org) k (by omega) (by omega)
  by_cases h96 : k < 112
  · exact mapAt (rM_6 b1 b2 len org) k (by omega) (by omega)
  by_cases h112 : k < 128
  · exact mapAt (rM_7 b1 b2 len org) k (by omega) (by omega)
  by_cases h128 : k < 144
  · exact mapAt (rM_8 b1 b2 len org) k (by omega) (by omega)
  by_cases h144 : k < 160
  · exact mapAt (rM_9 b1 b2 len org) k (by omega) (by omega)
  by_cases h160 : k < 176
  · exact mapAt (rM_10 b1 b2 len org) k (by omega) (by omega)
  by_cases h176 : k < 192
  · exact mapAt (rM_11 b1 b2 len org) k (by omega) (by omega)
  by_cases h192 : k < 208
  · exact mapAt (rM_12 b1 b2 len org) k (by omega) (by omega)
  by_cases h208 : k < 224
  · exact mapAt (rM_13 b1 b2 len org) k (by omega) (by omega)
  by_cases h224 : k < 240
  · exact mapAt (rM_14 b1 b2 len org) k (by omega) (by omega)
  by_cases h240 : k < 256
  · exact mapAt (rM_15 b1 b2 len org) k (by omega) (by omega)
  omega
theorem rS_all (len org : Int) (k : Nat) (hk : k < 256) : toldS len org k = expS k := by
  by_cases h0 : k < 16
  · exact mapAt (rS_0 len org) k (by omega) (by omega)
  by_cases h16 : k < 32
  · exact mapAt (rS_1 len org) k (by omega) (by omega)
  by_cases h32 : k < 48
  · exact mapAt (rS_2 len org) k (by omega) (by omega)
  by_cases h48 : k < 64
  · exact mapAt (rS_3 len org) k (by omega) (by omega)
  by_cases h64 : k < 80
  · exact mapAt (rS_4 len org) k (by omega) (by omega)
  by_cases h80 : k < 96
  · exact mapAt (rS_5 len org) k (by omega) (by omega)
  by_cases h96 : k < 112
  · exact mapAt (rS_6 len org) k (by omega) (by omega)
  by_cases h112 : k < 128
  · exact mapAt (rS_7 len org) k (by omega) (by omega)
  by_cases h128 : k < 144
  · exact mapAt (rS_8 len org) k (by omega) (by omega)
  by_cases h144 : k < 160
  · exact mapAt (rS_9 len org) k (by omega) (by omega)
  by_cases h160 : k < 176
  · exact mapAt (rS_10 len org) k (by omega) (by omega)
  by_cases h176 : k < 192
  · exact mapAt (rS_11 len org) k (by omega) (by omega)
  by_cases h192 : k < 208
  · exact mapAt (rS_12 len org) k (by omega) (by omega)
  by_cases h208 : k < 224
  · exact mapAt (rS_13 len org) k (by omega) (by omega)
  by_cases h224 : k < 240
  · exact mapAt (rS_14 len org) k (by omega) (by omega)
  by_cases h240 : k < 256
  · exact mapAt (rS_15 len org) k (by omega) (by omega)
  omega
theorem rB_all (len org : Int) (k : Nat) (hk : k < 256) : toldB len org k = expBR org k := by
  by_cases h0 : k < 16
  · exact mapAt (rB_0 len org) k (by omega) (by omega)
  by_cases h16 : k < 32
  · exact mapAt (rB_1 len org) k (by omega) (by omega)
  by_cases h32 : k < 48
  · exact mapAt (rB_2 len org) k (by omega) (by omega)
  by_cases h48 : k < 64
  · exact mapAt (rB_3 len org) k (by omega) (by omega)
  by_cases h64 : k < 80
  · exact mapAt (rB_4 len org) k (by omega) (by omega)
  by_cases h80 : k < 96
  · exact mapAt (rB_5 len org) k (by omega) (by omega)
  by_cases h96 : k < 112
  · exact mapAt (rB_6 len org) k (by omega) (by omega)
  by_cases h112 : k < 128
  · exact mapAt (rB_7 len org) k (by omega) (by omega)
  by_cases h128 : k < 144
  · exact mapAt (rB_8 len org) k (by omega) (by omega)
  by_cases h144 : k < 160
  · exact mapAt (rB_9 len org) k (by omega) (by omega)
  by_cases h160 : k < 176
  · exact mapAt (rB_10 len org) k (by omega) (by omega)
  by_cases h176 : k < 192
  · exact mapAt (rB_11 len org) k (by omega) (by omega)
  by_cases h192 : k < 208
  · exact mapAt (rB_12 len org) k (by omega) (by omega)
  by_cases h208 : k < 224
  · exact mapAt (rB_13 len org) k (by omega) (by omega)
  by_cases h224 : k < 240
  · exact mapAt (rB_14 len org) k (by omega) (by omega)
  by_cases h240 : k < 256
  · exact mapAt (rB_15 len org) k (by omega) (by omega)
  omega
/-- One of one byte says nothing of the others; one of two nothing of the third. -/
def argFew (k : Nat) : Bool := specI k || (Nat.beq (tmA k).2.1 7 || ((!(Nat.beq (clsI k) 1) || (Nat.beq (tmA k).2.1 0)) && (!(Nat.beq (clsI k) 2) || (Nat.ble (tmA k).2.1 4 || Nat.beq (tmA k).2.1 6))))
theorem argFew_all : allN argFew 256 0 = true := by kernel_rfl
theorem insL_one {k : Nat} (hk : k < 256) (hs : specI k = false) (hc : clsI k = 1) (a1 a2 c1 c2 org : Int) : insL k a1 a2 org = insL k c1 c2 org := by
  have h := allN_get argFew_all k hk
  rw [Nat.zero_add] at h
  unfold argFew at h
  rw [hs, hc, Bool.false_or] at h
  unfold insL
  cases h7 : Nat.beq (tmA k).2.1 7 with
  | true => rfl
  | false =>
    rw [h7, Bool.false_or] at h
    simp only [Bool.and_eq_true] at h
    have h0 : Nat.beq (tmA k).2.1 0 = true := by simpa using h.1
    have h0 := Nat.eq_of_beq_eq_true h0
    show insT (tmA k) a1 a2 org = insT (tmA k) c1 c2 org
    unfold insT
    rw [h0]; rfl
theorem insL_two {k : Nat} (hk : k < 256) (hs : specI k = false) (hc : clsI k = 2) (a1 a2 c2 org : Int) : insL k a1 a2 org = insL k a1 c2 org := by
  have h := allN_get argFew_all k hk
  rw [Nat.zero_add] at h
  unfold argFew at h
  rw [hs, hc, Bool.false_or] at h
  unfold insL
  cases h7 : Nat.beq (tmA k).2.1 7 with
  | true => rfl
  | false =>
    rw [h7, Bool.false_or] at h
    simp only [Bool.and_eq_true] at h
    have h0 : (Nat.ble (tmA k).2.1 4 || Nat.beq (tmA k).2.1 6) = true := by simpa using h.2
    show insT (tmA k) a1 a2 org = insT (tmA k) a1 c2 org
    unfold insT
    have : ∀ a : Nat, (Nat.ble a 4 || Nat.beq a 6) = true → ∀ e, argTx a a1 a2 e = argTx a a1 c2 e := fun a ha e => by
      match a, ha with
      | 0, _ => rfl
      | 1, _ => rfl
      | 2, _ => rfl
      | 3, _ => rfl
      | 4, _ => rfl
      | 5, h => cases h
      | 6, _ => rfl
      | n + 7, h => rfl
    rw [this _ h0]
theorem ir_hal {b : Int} {h : Bool} (hb : 0 ≤ b ∧ b ≤ 255) (e : h = decide (128 ≤ b)) : IR (halI h b) b := by
  subst e
  by_cases q : 128 ≤ b
  · rw [decide_eq_true q]; exact ⟨rfl, q, hb.2⟩
  · rw [decide_eq_false q]; exact ⟨rfl, hb.1, by show b ≤ 127; omega⟩
theorem told_reads : ReadsAt 79 := by
  intro n b org hn1 hn2 hb h0 h1
  have hb0 := hb 0 (by omega)
  obtain ⟨k, hk⟩ := Int.eq_ofNat_of_zero_le hb0.1
  have hk2 : k < 256 := by omega
  rw [hk]
  have out : ∀ {xs : List I} {len' : I} {x : Ins}, (toldR xs len' org).run = some (some x) → x = insX n k (b 1) (b 2) org → (∀ (i : Nat) x, xs[i]? = some x → i < n ∧ IR x (b i)) → IR len' n →
      ∃ (call : CallF) (xs : List I) (len' : I), CallOK Tryz.prog 6 call ∧ ((call (roW xs) 79 [.wsl 6 (I.lit 0) len', .int .i64 ⟨org, 0, 131072⟩] hpW).bind fun r => T.ret (insOf r)).run = some (some (insX n k (b 1) (b 2) org)) ∧ (∀ (i : Nat) x, xs[i]? = some x → i < n ∧ IR x (b i)) ∧ IR len' n :=
    fun r1 r2 r3 r4 => ⟨callA smQ, _, _, callAOK smQ_ok, by rw [← r2]; exact r1, r3, r4⟩
  have outS : ∀ {xs : List I} {len' : I} {x : Ins}, (signR xs len' org).run = some (some x) → x = insX n k (b 1) (b 2) org → (∀ (i : Nat) x, xs[i]? = some x → i < n ∧ IR x (b i)) → IR len' n →
      ∃ (call : CallF) (xs : List I) (len' : I), CallOK Tryz.prog 6 call ∧ ((call (roW xs) 79 [.wsl 6 (I.lit 0) len', .int .i64 ⟨org, 0, 131072⟩] hpW).bind fun r => T.ret (insOf r)).run = some (some (insX n k (b 1) (b 2) org)) ∧ (∀ (i : Nat) x, xs[i]? = some x → i < n ∧ IR x (b i)) ∧ IR len' n :=
    fun r1 r2 r3 r4 => ⟨callA smS, _, _, callAOK smS_ok, by rw [← r2]; exact r1, r3, r4⟩
  cases hs : specI k with
  | true =>
    simp only [specI, Bool.or_eq_true] at hs
    by_cases hn : n < 2
    · have en : n = 1 := by omega
      subst en
      rcases hs with h | h | h | h <;> have h := Nat.eq_of_beq_eq_true h <;> subst h
      · exact out (r1_16 org) rfl (xs1 (by omega) (ir_lit hk)) (IR.lit 1)
      · exact out (r1_203 org) rfl (xs1 (by omega) (ir_lit hk)) (IR.lit 1)
      · exact out (r1_232 org) rfl (xs1 (by omega) (ir_lit hk)) (IR.lit 1)
      · exact out (r1_248 org) rfl (xs1 (by omega) (ir_lit hk)) (IR.lit 1)
    · have hb1 := hb 1 (by omega)
      have hd : decide ((n : Int) < 2) = false := decide_eq_false (by omega)
      obtain ⟨m, hm⟩ := Int.eq_ofNat_of_zero_le hb1.1
      rcases hs with h | h | h | h <;> have h := Nat.eq_of_beq_eq_true h <;> subst h
      · by_cases hz : b 1 = 0
        · refine out (r2_16a n org) ?_ (xs2 (by omega) (ir_lit hk) (ir_lit (k := 0) hz)) (ir_len (by omega) hn2)
          show _ = (match decide ((n : Int) < 2) || !(b 1 == 0) with
            | true => dbTx 16
            | false => insT (tmA 16) 0 0 org)
          rw [hd, hz]; rfl
        · refine out (r2_16b (b 1) n org) ?_ (xs2 (by omega) (ir_lit hk) ⟨rfl, by show (1 : Int) ≤ b 1; omega, hb1.2⟩) (ir_len (by omega) hn2)
          show _ = (match decide ((n : Int) < 2) || !(b 1 == 0) with
            | true => dbTx 16
            | false => insT (tmA 16) 0 0 org)
          rw [hd, show (b 1 == 0) = false from by simpa using hz]; rfl
      · refine out (rB_all n org m (by omega)) ?_ (xs2 (by omega) (ir_lit hk) (ir_lit hm)) (ir_len (by omega) hn2)
        show _ = (match decide ((n : Int) < 2) with
          | true => dbTx 203
          | false => insT (tmB (b 1).toNat) 0 0 org)
        rw [hd, hm]; rfl
      · by_cases hh : 128 ≤ b 1
        · refine outS ((sgR232t (b 1) n org).trans (sgX_some (by decide) (by omega) (by omega))) ?_ (xs2 (by omega) (ir_lit hk) (ir_hal hb1 (decide_eq_true hh).symm)) (ir_len (by omega) hn2)
          show _ = (match decide ((n : Int) < 2) with
            | true => dbTx 232
            | false => sgIns preA 16 (IntKind.i8.wrap (b 1)))
          rw [hd, wrap8 hb1.1 hb1.2, decide_eq_true hh]; rfl
        · refine outS ((sgR232f (b 1) n org).trans (sgX_some (by decide) (by omega) (by omega))) ?_ (xs2 (by omega) (ir_lit hk) (ir_hal hb1 (decide_eq_false hh).symm)) (ir_len (by omega) hn2)
          show _ = (match decide ((n : Int) < 2) with
            | true => dbTx 232
            | false => sgIns preA 16 (IntKind.i8.wrap (b 1)))
          rw [hd, wrap8 hb1.1 hb1.2, decide_eq_false hh]; rfl
      · by_cases hh : 128 ≤ b 1
        · refine outS ((sgR248t (b 1) n org).trans (sgX_some (by decide) (by omega) (by omega))) ?_ (xs2 (by omega) (ir_lit hk) (ir_hal hb1 (decide_eq_true hh).symm)) (ir_len (by omega) hn2)
          show _ = (match decide ((n : Int) < 2) with
            | true => dbTx 248
            | false => sgIns preL 12 (IntKind.i8.wrap (b 1)))
          rw [hd, wrap8 hb1.1 hb1.2, decide_eq_true hh]; rfl
        · refine outS ((sgR248f (b 1) n org).trans (sgX_some (by decide) (by omega) (by omega))) ?_ (xs2 (by omega) (ir_lit hk) (ir_hal hb1 (decide_eq_false hh).symm)) (ir_len (by omega) hn2)
          show _ = (match decide ((n : Int) < 2) with
            | true => dbTx 248
            | false => sgIns preL 12 (IntKind.i8.wrap (b 1)))
          rw [hd, wrap8 hb1.1 hb1.2, decide_eq_false hh]; rfl
  | false =>
    have hc := clsI_at hk2 hs
    have hX := insX_plain (n := n) (b1 := b 1) (b2 := b 2) (org := org) hs
    by_cases hn : n < clsI k
    · have e : decide ((n : Int) < clsI k) = true := decide_eq_true (by omega)
      rw [e] at hX
      have r := rS_all n org k hk2
      have h1' : Nat.beq (clsI k) 1 = false := by
        cases hq : Nat.beq (clsI k) 1 with
        | false => rfl
        | true => have := Nat.eq_of_beq_eq_true hq; omega
      unfold toldS expS at r
      rw [hs, h1'] at r
      exact out r hX.symm (xs1 (by omega) (ir_lit hk)) ⟨rfl, by show (1 : Int) ≤ n; omega, by show (n : Int) ≤ (clsI k : Int) - 1; omega⟩
    · have e : decide ((n : Int) < clsI k) = false := decide_eq_false (by omega)
      rw [e] at hX
      by_cases h11 : clsI k = 1
      · have r := rL_all 128 0 n org k hk2
        unfold toldL expLR at r
        rw [hs, h11] at r
        simp only [cond_false] at r
        refine out r ?_ (xs1 (by omega) (ir_lit hk)) (ir_len (by omega) hn2)
        rw [hX]
        show insLR (decide ((128 : Int) ≤ 128)) k 128 0 org = insL k (b 1) (b 2) org
        rw [insLR_eq (by decide) (by decide) (by decide) (by decide)]
        exact insL_one hk2 hs h11 _ _ _ _ _
      · have hb1 := hb 1 (by omega)
        have fin : ∀ (bb2 : Int), 0 ≤ bb2 → bb2 ≤ 255 → (toldL (decide (128 ≤ b 1)) (b 1) bb2 n org k) = some (some (insL k (b 1) bb2 org)) := fun bb2 q0 q1 => by
          by_cases hh : 128 ≤ b 1
          · rw [decide_eq_true hh]
            have r := rL_all (b 1) bb2 n org k hk2
            rw [r]
            unfold expLR
            rw [hs]
            simp only [cond_false]
            rw [← insLR_eq hb1.1 hb1.2 q0 q1, decide_eq_true hh]
          · rw [decide_eq_false hh]
            have r := rM_all (b 1) bb2 n org k hk2
            unfold toldM expMR at r
            have h1' : Nat.beq (clsI k) 1 = false := by
              cases hq : Nat.beq (clsI k) 1 with
              | false => rfl
              | true => exact absurd (Nat.eq_of_beq_eq_true hq) h11
            rw [h1'] at r
            simp only [cond_false] at r
            rw [r]
            unfold expLR
            rw [hs]
            simp only [cond_false]
            rw [← insLR_eq hb1.1 hb1.2 q0 q1, decide_eq_false hh]
        rcases hc with hc | hc | hc
        · exact absurd hc h11
        · have r := fin 0 (by decide) (by decide)
          unfold toldL at r
          rw [hs, hc] at r
          simp only [cond_false] at r
          refine out r ?_ (xs2 (by omega) (ir_lit hk) (ir_hal hb1 rfl)) (ir_len (by omega) hn2)
          rw [hX]
          exact insL_two hk2 hs hc _ _ _ _
        · have hb2 := hb 2 (by omega)
          have r := fin (b 2) hb2.1 hb2.2
          unfold toldL at r
          rw [hs, hc] at r
          simp only [cond_false] at r
          exact out r hX.symm (xs3 (by omega) (ir_lit hk) (ir_hal hb1 rfl) (ir_by hb2)) (ir_len (by omega) hn2)
theorem told_at : SumAt 79 insSum := ins_at told_reads
end Go.Proofs.YtlmacdfbdhpljaaGreatDoor
