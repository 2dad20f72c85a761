/- Own text: the program's instruction at the front of some bytes, in any memory. -/
import Derived.Test.YtlmacdfbdhpljaaGreatDoorOo
import Derived.Test.YtlmacdfbdhpljaaGreatDoorOoB
import Derived.Test.YtlmacdfbdhpljaaGreatDoorOz
namespace Go.Proofs.YtlmacdfbdhpljaaGreatDoor
open Go.Ev Go.Ev.Tr Go.Proofs
set_option maxRecDepth 1000000
theorem mapAt {β : Type} {f g : Nat → β} {s m : Nat} (h : (List.range' s m).map f = (List.range' s m).map g) (k : Nat) (h1 : s ≤ k) (h2 : k < s + m) : f k = g k :=
  List.map_inj_left.1 h k (List.mem_range'_1.2 ⟨h1, h2⟩)
theorem oL_all (b1 b2 len org : Int) (k : Nat) (hk : k < 256) : oneL b1 b2 len org k = expL b1 b2 org k := by
  by_cases h0 : k < 16
  · exact mapAt (oL_0 b1 b2 len org) k (by omega) (by omega)
  by_cases h16 : k < 32
  · exact mapAt (oL_1 b1 b2 len org) k (by omega) (by omega)
  by_cases h32 : k < 48
  · exact mapAt (oL_2 b1 b2 len org) k (by omega) (by omega)
  by_cases h48 : k < 64
  · exact mapAt (oL_3 b1 b2 len org) k (by omega) (by omega)
  by_cases h64 : k < 80
  · exact mapAt (oL_4 b1 b2 len org) k (by omega) (by omega)
  by_cases h80 : k < 96
  · exact mapAt (oL_5 b1 b2 len org) k (by omega) (by omega)
  by_cases h96 : k < 112
  · exact mapAt (oL_6 b1 b2 len org) k (by omega) (by omega)
  by_cases h112 : k < 128
  · exact mapAt (oL_7 b1 b2 len org) k (by omega) (by omega)
  by_cases h128 : k < 144
  · exact mapAt (oL_8 b1 b2 len org) k (by omega) (by omega)
  by_cases h144 : k < 160
  · exact mapAt (oL_9 b1 b2 len org) k (by omega) (by omega)
  by_cases h160 : k < 176
  · exact mapAt (oL_10 b1 b2 len org) k (by omega) (by omega)
  by_cases h176 : k < 192
  · exact mapAt (oL_11 b1 b2 len org) k (by omega) (by omega)
  by_cases h192 : k < 208
  · exact mapAt (oL_12 b1 b2 len org) k (by omega) (by omega)
  by_cases h208 : k < 224
  · exact mapAt (oL_13 b1 b2 len org) k (by omega) (by omega)
  by_cases h224 : k < 240
  · exact mapAt (oL_14 b1 b2 len org) k (by omega) (by omega)
  by_cases h240 : k < 256
  · exact mapAt (oL_15 b1 b2 len org) k (by omega) (by omega)
  omega
theorem oS_all (len org : Int) (k : Nat) (hk : k < 256) : oneS len org k = expS k := by
  by_cases h0 : k < 16
  · exact mapAt (oS_0 len org) k (by omega) (by omega)
  by_cases h16 : k < 32
  · exact mapAt (oS_1 len org) k (by omega) (by omega)
  by_cases h32 : k < 48
  · exact mapAt (oS_2 len org) k (by omega) (by omega)
  by_cases h48 : k < 64
  · exact mapAt (oS_3 len org) k (by omega) (by omega)
  by_cases h64 : k < 80
  · exact mapAt (oS_4 len org) k (by omega) (by omega)
  by_cases h80 : k < 96
  · exact mapAt (oS_5 len org) k (by omega) (by omega)
  by_cases h96 : k < 112
  · exact mapAt (oS_6 len org) k (by omega) (by omega)
  by_cases h112 : k < 128
  · exact mapAt (oS_7 len org) k (by omega) (by omega)
  by_cases h128 : k < 144
  · exact mapAt (oS_8 len org) k (by omega) (by omega)
  by_cases h144 : k < 160
  · exact mapAt (oS_9 len org) k (by omega) (by omega)
  by_cases h160 : k < 176
  · exact mapAt (oS_10 len org) k (by omega) (by omega)
  by_cases h176 : k < 192
  · exact mapAt (oS_11 len org) k (by omega) (by omega)
  by_cases h192 : k < 208
  · exact mapAt (oS_12 len org) k (by omega) (by omega)
  by_cases h208 : k < 224
  · exact mapAt (oS_13 len org) k (by omega) (by omega)
  by_cases h224 : k < 240
  · exact mapAt (oS_14 len org) k (by omega) (by omega)
  by_cases h240 : k < 256
  · exact mapAt (oS_15 len org) k (by omega) (by omega)
  omega
theorem oB_all (len org : Int) (k : Nat) (hk : k < 256) : oneB len org k = expB org k := by
  by_cases h0 : k < 16
  · exact mapAt (oB_0 len org) k (by omega) (by omega)
  by_cases h16 : k < 32
  · exact mapAt (oB_1 len org) k (by omega) (by omega)
  by_cases h32 : k < 48
  · exact mapAt (oB_2 len org) k (by omega) (by omega)
  by_cases h48 : k < 64
  · exact mapAt (oB_3 len org) k (by omega) (by omega)
  by_cases h64 : k < 80
  · exact mapAt (oB_4 len org) k (by omega) (by omega)
  by_cases h80 : k < 96
  · exact mapAt (oB_5 len org) k (by omega) (by omega)
  by_cases h96 : k < 112
  · exact mapAt (oB_6 len org) k (by omega) (by omega)
  by_cases h112 : k < 128
  · exact mapAt (oB_7 len org) k (by omega) (by omega)
  by_cases h128 : k < 144
  · exact mapAt (oB_8 len org) k (by omega) (by omega)
  by_cases h144 : k < 160
  · exact mapAt (oB_9 len org) k (by omega) (by omega)
  by_cases h160 : k < 176
  · exact mapAt (oB_10 len org) k (by omega) (by omega)
  by_cases h176 : k < 192
  · exact mapAt (oB_11 len org) k (by omega) (by omega)
  by_cases h192 : k < 208
  · exact mapAt (oB_12 len org) k (by omega) (by omega)
  by_cases h208 : k < 224
  · exact mapAt (oB_13 len org) k (by omega) (by omega)
  by_cases h224 : k < 240
  · exact mapAt (oB_14 len org) k (by omega) (by omega)
  by_cases h240 : k < 256
  · exact mapAt (oB_15 len org) k (by omega) (by omega)
  omega
/-- What is known of a function that tells the instruction at the front of some bytes. -/
def ReadsAt (f : Nat) : Prop := ∀ (n : Nat) (b : Nat → Int) (org : Int), 1 ≤ n → n ≤ 4611686018427387904 → (∀ i, i < n → 0 ≤ b i ∧ b i ≤ 255) → 0 ≤ org → org ≤ 131072 →
  ∃ (call : CallF) (xs : List I) (len' : I), CallOK Tryz.prog 6 call ∧ ((call (roW xs) f [.wsl 6 (I.lit 0) len', .int .i64 ⟨org, 0, 131072⟩] hpW).bind fun r => T.ret (insOf r)).run = some (some (insX n (b 0) (b 1) (b 2) org)) ∧ (∀ (i : Nat) x, xs[i]? = some x → i < n ∧ IR x (b i)) ∧ IR len' n
theorem xs1 {n : Nat} {b : Nat → Int} {x0 : I} (hn : 1 ≤ n) (h0 : IR x0 (b 0)) : ∀ (i : Nat) x, [x0][i]? = some x → i < n ∧ IR x (b i) := fun i x hi => by
  match i with
  | 0 => simp only [List.getElem?_cons_zero, Option.some.injEq] at hi; subst hi; exact ⟨by omega, h0⟩
  | i + 1 => simp at hi
theorem xs2 {n : Nat} {b : Nat → Int} {x0 x1 : I} (hn : 2 ≤ n) (h0 : IR x0 (b 0)) (h1 : IR x1 (b 1)) : ∀ (i : Nat) x, [x0, x1][i]? = some x → i < n ∧ IR x (b i) := fun i x hi => by
  match i with
  | 0 => simp only [List.getElem?_cons_zero, Option.some.injEq] at hi; subst hi; exact ⟨by omega, h0⟩
  | 1 => simp only [List.getElem?_cons_succ, List.getElem?_cons_zero, Option.some.injEq] at hi; subst hi; exact ⟨by omega, h1⟩
  | i + 2 => simp at hi
theorem xs3 {n : Nat} {b : Nat → Int} {x0 x1 x2 : I} (hn : 3 ≤ n) (h0 : IR x0 (b 0)) (h1 : IR x1 (b 1)) (h2 : IR x2 (b 2)) : ∀ (i : Nat) x, [x0, x1, x2][i]? = some x → i < n ∧ IR x (b i) := fun i x hi => by
  match i with
  | 0 => simp only [List.getElem?_cons_zero, Option.some.injEq] at hi; subst hi; exact ⟨by omega, h0⟩
  | 1 => simp only [List.getElem?_cons_succ, List.getElem?_cons_zero, Option.some.injEq] at hi; subst hi; exact ⟨by omega, h1⟩
  | 2 => simp only [List.getElem?_cons_succ, List.getElem?_cons_zero, Option.some.injEq] at hi; subst hi; exact ⟨by omega, h2⟩
  | i + 3 => simp at hi
theorem ir_lit {b : Int} {k : Nat} (h : b = k) : IR (I.lit k) b := by rw [h]; exact IR.lit _
theorem ir_by {b : Int} (h : 0 ≤ b ∧ b ≤ 255) : IR (byI b) b := ⟨rfl, h.1, h.2⟩
theorem ir_len {n m : Nat} (h0 : m ≤ n) (h1 : n ≤ 4611686018427387904) : IR (lenG m n) n := ⟨rfl, by show (m : Int) ≤ n; omega, by show (n : Int) ≤ 4611686018427387904; omega⟩
theorem clsI_all : allN (fun k => specI k || (Nat.beq (clsI k) 1 || (Nat.beq (clsI k) 2 || Nat.beq (clsI k) 3))) 256 0 = true := by kernel_rfl
theorem clsI_at {k : Nat} (h : k < 256) (hs : specI k = false) : clsI k = 1 ∨ clsI k = 2 ∨ clsI k = 3 := by
  have := allN_get clsI_all k h
  rw [Nat.zero_add, hs, Bool.false_or] at this
  simp only [Bool.or_eq_true] at this
  rcases this with h | h | h
  · exact .inl (Nat.eq_of_beq_eq_true h)
  · exact .inr (.inl (Nat.eq_of_beq_eq_true h))
  · exact .inr (.inr (Nat.eq_of_beq_eq_true h))
theorem specI_not {k : Nat} (h : specI k = false) : Nat.beq k 203 = false ∧ Nat.beq k 16 = false ∧ Nat.beq k 232 = false ∧ Nat.beq k 248 = false := by
  simp only [specI, Bool.or_eq_false_iff] at h
  exact ⟨h.2.1, h.1, h.2.2.1, h.2.2.2⟩
theorem insX_plain {n : Int} {k : Nat} {b1 b2 org : Int} (h : specI k = false) : insX n k b1 b2 org = match decide (n < clsI k) with
    | true => dbTx k
    | false => insL k b1 b2 org := by
  obtain ⟨h1, h2, h3, h4⟩ := specI_not h
  unfold insX
  rw [Int.toNat_natCast, h1, h2, h3, h4]
  cases decide (n < clsI k) <;> rfl
theorem one_reads : ReadsAt 49 := by
  intro n b org hn1 hn2 hb h0 h1
  have hb0 := hb 0 (by omega)
  obtain ⟨k, hk⟩ := Int.eq_ofNat_of_zero_le hb0.1
  have hk2 : k < 256 := by omega
  rw [hk]
  have out : ∀ {xs : List I} {len' : I} {x : Ins}, (oneR xs len' org).run = some (some x) → x = insX n k (b 1) (b 2) org → (∀ (i : Nat) x, xs[i]? = some x → i < n ∧ IR x (b i)) → IR len' n →
      ∃ (call : CallF) (xs : List I) (len' : I), CallOK Tryz.prog 6 call ∧ ((call (roW xs) 49 [.wsl 6 (I.lit 0) len', .int .i64 ⟨org, 0, 131072⟩] hpW).bind fun r => T.ret (insOf r)).run = some (some (insX n k (b 1) (b 2) org)) ∧ (∀ (i : Nat) x, xs[i]? = some x → i < n ∧ IR x (b i)) ∧ IR len' n :=
    fun r1 r2 r3 r4 => ⟨callA smO, _, _, callAOK smO_ok, by rw [← r2]; exact r1, r3, r4⟩
  cases hs : specI k with
  | true =>
    simp only [specI, Bool.or_eq_true] at hs
    by_cases hn : n < 2
    · have en : n = 1 := by omega
      subst en
      rcases hs with h | h | h | h <;> have h := Nat.eq_of_beq_eq_true h <;> subst h
      · exact out (o1_16 org) rfl (xs1 (by omega) (ir_lit hk)) (IR.lit 1)
      · exact out (o1_203 org) rfl (xs1 (by omega) (ir_lit hk)) (IR.lit 1)
      · exact out (o1_232 org) rfl (xs1 (by omega) (ir_lit hk)) (IR.lit 1)
      · exact out (o1_248 org) rfl (xs1 (by omega) (ir_lit hk)) (IR.lit 1)
    · have hb1 := hb 1 (by omega)
      have hd : decide ((n : Int) < 2) = false := decide_eq_false (by omega)
      obtain ⟨m, hm⟩ := Int.eq_ofNat_of_zero_le hb1.1
      rcases hs with h | h | h | h <;> have h := Nat.eq_of_beq_eq_true h <;> subst h
      · by_cases hz : b 1 = 0
        · refine out (o2_16a n org) ?_ (xs2 (by omega) (ir_lit hk) (ir_lit (k := 0) hz)) (ir_len (by omega) hn2)
          show _ = (match decide ((n : Int) < 2) || !(b 1 == 0) with
            | true => dbTx 16
            | false => insT (tmA 16) 0 0 org)
          rw [hd, hz]; rfl
        · refine out (o2_16b (b 1) n org) ?_ (xs2 (by omega) (ir_lit hk) ⟨rfl, by show (1 : Int) ≤ b 1; omega, hb1.2⟩) (ir_len (by omega) hn2)
          show _ = (match decide ((n : Int) < 2) || !(b 1 == 0) with
            | true => dbTx 16
            | false => insT (tmA 16) 0 0 org)
          rw [hd, show (b 1 == 0) = false from by simpa using hz]; rfl
      · refine out (oB_all n org m (by omega)) ?_ (xs2 (by omega) (ir_lit hk) (ir_lit hm)) (ir_len (by omega) hn2)
        show _ = (match decide ((n : Int) < 2) with
          | true => dbTx 203
          | false => insT (tmB (b 1).toNat) 0 0 org)
        rw [hd, hm]; rfl
      · refine out ((sgA232 (b 1) n org).trans (sgX_some (by decide) ?_ ?_)) ?_ (xs2 (by omega) (ir_lit hk) (ir_by hb1)) (ir_len (by omega) hn2)
        · rw [wrap8 hb1.1 hb1.2]; unfold halV; split <;> rename_i hx
          · have := of_decide_eq_true hx; omega
          · omega
        · rw [wrap8 hb1.1 hb1.2]; unfold halV; split <;> omega
        · show _ = (match decide ((n : Int) < 2) with
            | true => dbTx 232
            | false => sgIns preA 16 (IntKind.i8.wrap (b 1)))
          rw [hd]
      · refine out ((sgA248 (b 1) n org).trans (sgX_some (by decide) ?_ ?_)) ?_ (xs2 (by omega) (ir_lit hk) (ir_by hb1)) (ir_len (by omega) hn2)
        · rw [wrap8 hb1.1 hb1.2]; unfold halV; split <;> rename_i hx
          · have := of_decide_eq_true hx; omega
          · omega
        · rw [wrap8 hb1.1 hb1.2]; unfold halV; split <;> omega
        · show _ = (match decide ((n : Int) < 2) with
            | true => dbTx 248
            | false => sgIns preL 12 (IntKind.i8.wrap (b 1)))
          rw [hd]
  | false =>
    have hc := clsI_at hk2 hs
    have hX := insX_plain (n := n) (b1 := b 1) (b2 := b 2) (org := org) hs
    by_cases hn : n < clsI k
    · have e : decide ((n : Int) < clsI k) = true := decide_eq_true (by omega)
      rw [e] at hX
      have r := oS_all n org k hk2
      have h1' : Nat.beq (clsI k) 1 = false := by
        cases hq : Nat.beq (clsI k) 1 with
        | false => rfl
        | true => have := Nat.eq_of_beq_eq_true hq; omega
      unfold oneS expS at r
      rw [hs, h1'] at r
      exact out r hX.symm (xs1 (by omega) (ir_lit hk)) ⟨rfl, by show (1 : Int) ≤ n; omega, by show (n : Int) ≤ (clsI k : Int) - 1; omega⟩
    · have e : decide ((n : Int) < clsI k) = false := decide_eq_false (by omega)
      rw [e] at hX
      have r := oL_all (b 1) (b 2) n org k hk2
      unfold oneL expL at r
      rw [hs] at r
      simp only [cond_false] at r
      rcases hc with hc | hc | hc <;> rw [hc] at r hn
      · exact out r hX.symm (xs1 (by omega) (ir_lit hk)) (ir_len (by omega) hn2)
      · exact out r hX.symm (xs2 (by omega) (ir_lit hk) (ir_by (hb 1 (by omega)))) (ir_len (by omega) hn2)
      · exact out r hX.symm (xs3 (by omega) (ir_lit hk) (ir_by (hb 1 (by omega))) (ir_by (hb 2 (by omega)))) (ir_len (by omega) hn2)
end Go.Proofs.YtlmacdfbdhpljaaGreatDoor
