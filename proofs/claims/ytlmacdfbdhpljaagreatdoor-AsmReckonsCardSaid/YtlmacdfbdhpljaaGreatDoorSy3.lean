/- Own text: AsmReckons, walked through: without names. -/
import Derived.Test.YtlmacdfbdhpljaaGreatDoorSy1
namespace Go.Proofs.YtlmacdfbdhpljaaGreatDoor
open Go.Ev Go.Ev.Tr Go.Proofs Go.RowKit
set_option maxRecDepth 1000000
abbrev v0 : Nat → Int := fun _ => 0
/-- The loop's head is reached again with the same text. -/
theorem rel_same {vs : Nat → Int} {m0 : Nat} {w w4 : World} {k : Nat} {l : Exp} {v : Int} {nm : Value} (hk6 : k < 6) (hl : l.length ≤ k) (he : EOk vs m0 l) (hB4 : Below w.heap.size w w4) (hvv : eV vs l = v) :
    ∃ (k1 : Nat) (l1 : Exp), Value.int .i64 ((k : Int) + 1) = .int .i64 k1 ∧ Value.string ⟨⟨eB l⟩⟩ = .string ⟨⟨eB l1⟩⟩ ∧ Value.int .i64 v = .int .i64 (eV vs l1) ∧ nm = nm ∧ k1 ≤ 6 ∧ l1.length ≤ k1 ∧ EOk vs m0 l1 ∧ Below w.heap.size w w4 :=
  ⟨k + 1, l, by go_num, rfl, by rw [hvv], rfl, by omega, by omega, he, hB4⟩
/-- Or with a longer one. -/
theorem rel_more {vs : Nat → Int} {m0 : Nat} {w w4 : World} {k : Nat} {l : Exp} {v : Int} {nm : Value} (hk6 : k < 6) (hl : l.length ≤ k) (he : EOk vs m0 l) (hB4 : Below w.heap.size w w4) (hvv : eV vs l = v) (q : Nat) (t : Tm) (x : Int) (hx : x = stepV q v (t.val vs)) (ht : t.in m0) (t0 : 0 ≤ t.val vs) (t1 : t.val vs < 1000)
    (h1 : -2147483648 ≤ x) (h2 : x ≤ 2147483647) (h3 : q = 3 ∨ q = 4 → t.val vs ≠ 0) (h4 : q = 8 ∨ q = 9 → t.val vs ≤ 7) :
    ∃ (k1 : Nat) (l1 : Exp), Value.int .i64 ((k : Int) + 1) = .int .i64 k1 ∧ Value.string (⟨⟨[40]⟩⟩ ++ ⟨⟨eB l⟩⟩ ++ ⟨⟨[32]⟩⟩ ++ ⟨⟨opWr q⟩⟩ ++ ⟨⟨[32]⟩⟩ ++ ⟨⟨tmB t⟩⟩ ++ ⟨⟨[41]⟩⟩) = .string ⟨⟨eB l1⟩⟩ ∧ Value.int .i64 x = .int .i64 (eV vs l1) ∧ nm = nm ∧ k1 ≤ 6 ∧ l1.length ≤ k1 ∧ EOk vs m0 l1 ∧ Below w.heap.size w w4 :=
  ⟨k + 1, (q, t) :: l, by go_num, congrArg Value.string (txt_step q t l), congrArg (Value.int .i64) (by rw [hx, ← hvv]; rfl), rfl, by omega, by simp; omega, ⟨he, ht, by rw [hvv, ← hx]; exact fits_iff.2 ⟨h1, h2⟩, t0, t1, h3, h4⟩, hB4⟩
theorem i32_ir {n : Int} (h1 : -2147483648 ≤ n) (h2 : n ≤ 2147483647) : IR (i32I n) n := ⟨rfl, h1, h2⟩
theorem bits_and {v : Int} {n : Nat} (h1 : -2147483648 ≤ v) (h2 : v ≤ 2147483647) (hn : n < 1000) : bits .and .i64 v n = stepV 5 v n :=
  (IR.iand (k := .i64) (i32_ir h1 h2) (i32_ir (n := (n : Int)) (by omega) (by omega))).1.symm
theorem bits_or {v : Int} {n : Nat} (h1 : -2147483648 ≤ v) (h2 : v ≤ 2147483647) (hn : n < 1000) : bits .or .i64 v n = stepV 6 v n :=
  (IR.ior (k := .i64) (i32_ir h1 h2) (i32_ir (n := (n : Int)) (by omega) (by omega))).1.symm
theorem bits_xor {v : Int} {n : Nat} (h1 : -2147483648 ≤ v) (h2 : v ≤ 2147483647) (hn : n < 1000) : bits .xor .i64 v n = stepV 7 v n :=
  (IR.ixor (k := .i64) (i32_ir h1 h2) (i32_ir (n := (n : Int)) (by omega) (by omega))).1.symm
theorem shl_is {v : Int} {n : Nat} (h1 : -2147483648 ≤ v) (h2 : v ≤ 2147483647) : wrap64 (v * 2 ^ (n % 8)) = stepV 8 v ((n % 8 : Nat) : Int) := by
  have hj : n % 8 = 0 ∨ n % 8 = 1 ∨ n % 8 = 2 ∨ n % 8 = 3 ∨ n % 8 = 4 ∨ n % 8 = 5 ∨ n % 8 = 6 ∨ n % 8 = 7 := by omega
  rcases hj with h | h | h | h | h | h | h | h <;> rw [h] <;> first | exact (show wrap64 (v * 1) = v * 1 from by unfold wrap64; omega) | exact (show wrap64 (v * 2) = v * 2 from by unfold wrap64; omega) | exact (show wrap64 (v * 4) = v * 4 from by unfold wrap64; omega) | exact (show wrap64 (v * 8) = v * 8 from by unfold wrap64; omega) | exact (show wrap64 (v * 16) = v * 16 from by unfold wrap64; omega) | exact (show wrap64 (v * 32) = v * 32 from by unfold wrap64; omega) | exact (show wrap64 (v * 64) = v * 64 from by unfold wrap64; omega) | exact (show wrap64 (v * 128) = v * 128 from by unfold wrap64; omega)
theorem shr_is {v : Int} {n : Nat} : v / 2 ^ (n % 8) = stepV 9 v ((n % 8 : Nat) : Int) := by
  have hj : n % 8 = 0 ∨ n % 8 = 1 ∨ n % 8 = 2 ∨ n % 8 = 3 ∨ n % 8 = 4 ∨ n % 8 = 5 ∨ n % 8 = 6 ∨ n % 8 = 7 := by omega
  rcases hj with h | h | h | h | h | h | h | h <;> rw [h] <;> rfl
theorem and_low {v : Int} (h1 : -2147483648 ≤ v) (h2 : v ≤ 2147483647) : bits .and .i64 v 65535 = v % 65536 := by
  have h := (IR.iand (k := .i64) (i32_ir h1 h2) (IR.lit 65535)).1
  exact h.trans (show (iand .i64 (i32I v) (I.lit 65535)).n = v % 65536 from rfl)
theorem mul_bd {v : Int} {n : Nat} (h1 : -2147483648 ≤ v) (h2 : v ≤ 2147483647) (hn : n < 1000) : -2147483648000 ≤ v * n ∧ v * n ≤ 2147483648000 := by
  have a := Int.mul_le_mul_of_nonneg_right h1 (show (0 : Int) ≤ n by omega)
  have b := Int.mul_le_mul_of_nonneg_right h2 (show (0 : Int) ≤ n by omega)
  omega
set_option maxHeartbeats 8000000 in
theorem reckons_plain {w : World} {ao : Option Addr} {len cap : Nat} {f g : Nat → Int} (hA : ArgP w ao len f g) (_ : len ≤ maxLen) :
    Calls Tryz.prog 4 #[.slice ao len cap, .bool false] w fun e w' => e = .returned (.bool true) ∧ Below w.heap.size w w' := by
  go_enter Tryz.func4, Tryz.ntmps4
  go_wp2_with (go_at_call 15; refine (awake_calls _).mono ?_)
  rintro e w1 ⟨rfl, b1⟩
  go_wp2
  go_loopw [6, 7, 8, 9] (fun tx v nm i wr => ∃ (k : Nat) (l : Exp), i = .int .i64 k ∧ tx = .string ⟨⟨eB l⟩⟩ ∧ v = .int .i64 (eV v0 l) ∧ nm = .slice none 0 0 ∧ k ≤ 6 ∧ l.length ≤ k ∧ EOk v0 0 l ∧ Below w.heap.size w wr) (fun _ _ _ i _ => 6 - (intOf i).toNat)
  case atStart => exact ⟨0, [], rfl, rfl, rfl, rfl, by omega, by simp, trivial, b1⟩
  case round =>
    obtain ⟨k, l, rfl, rfl, rfl, rfl, hk, hl, he, hB⟩ := hrel
    have hfit := fits_iff.1 (eV_fits he)
    have hz1 : (eB l).length ≤ 100 := by have := eB_len l; omega
    by_cases hlt : k < len ∧ k < 6
    · obtain ⟨hlt, hk6⟩ := hlt
      obtain ⟨B, off, rfl, hP⟩ := hA (by omega)
      have hb := hP.lt (by omega)
      have d2 : wr.cell? ⟨B, off + k * 2 + 1, none⟩ = some (.int .i64 (g k)) := (hB.cell hb).trans (hP.cg k hlt)
      have bf := hP.bf k hlt
      have bg := hP.bg k hlt
      have hn := pck_lt (g k) (m := 1000) (by omega)
      have ho := pck_lt (f k) (m := 11) (by omega)
      go_wp2_with (go_at_call 17; refine (pick_is _ bg (m := 1000) (by omega) (by omega)).mono ?_)
      generalize (pckV (g k) ((1000 : Nat) : Int)).toNat = n at hn ⊢
      rintro e w2 ⟨rfl, b2⟩
      have hB2 := hB.trans (b2.mono hB.size)
      go_wp2_with (go_at_call 18; refine (dec_calls _ hn).mono ?_)
      rintro e w3 ⟨rfl, b3⟩
      have hB3 := hB2.trans (b3.mono hB2.size)
      have d1 : w3.cell? ⟨B, off + k * 2, none⟩ = some (.int .i64 (f k)) := (hB3.cell hb).trans (hP.cf k hlt)
      have hz2 : (decB n).length ≤ 3 := (decB_len n).2
      clear b2 b3 d2
      go_wp2_with (go_at_call 17; refine (pick_is _ bf (m := 11) (by omega) (by omega)).mono ?_)
      generalize (pckV (f k) ((11 : Nat) : Int)).toNat = p at ho ⊢
      rintro e w4 ⟨rfl, b4⟩
      have hB4 := hB3.trans (b4.mono hB3.size)
      clear b4 d1 hB hB2 hB3
      generalize hvv : eV v0 l = v at hfit ⊢
      have hp : p = 0 ∨ p = 1 ∨ p = 2 ∨ p = 3 ∨ p = 4 ∨ p = 5 ∨ p = 6 ∨ p = 7 ∨ p = 8 ∨ p = 9 ∨ p = 10 := by omega
      rcases hp with rfl | rfl | rfl | rfl | rfl | rfl | rfl | rfl | rfl | rfl | rfl
      · go_wp2
        all_goals go_roundw
        all_goals first | (simp [intOf]; omega) | exact rel_same hk6 hl he hB4 hvv | skip
        all_goals refine rel_more hk6 hl he hB4 hvv 0 (.num n) _ ?_ hn ?_ ?_ ?_ ?_ ?_ ?_
        all_goals first | rfl | omega | (simp only [Tm.val]; omega)
      · go_wp2
        all_goals go_roundw
        all_goals first | (simp [intOf]; omega) | exact rel_same hk6 hl he hB4 hvv | skip
        all_goals refine rel_more hk6 hl he hB4 hvv 1 (.num n) _ ?_ hn ?_ ?_ ?_ ?_ ?_ ?_
        all_goals first | rfl | omega | (simp only [Tm.val]; omega)
      · obtain ⟨m1, m2⟩ := mul_bd hfit.1 hfit.2 hn
        go_wp2
        all_goals go_roundw
        all_goals first | (simp [intOf]; omega) | exact rel_same hk6 hl he hB4 hvv | skip
        all_goals refine rel_more hk6 hl he hB4 hvv 2 (.num n) _ ?_ hn ?_ ?_ ?_ ?_ ?_ ?_
        all_goals first | rfl | omega | (simp only [Tm.val]; omega)
      · by_cases hn0 : n = 0
        · go_wp2
          all_goals go_roundw
          all_goals first | (simp [intOf]; omega) | exact rel_same hk6 hl he hB4 hvv
        · go_wp2
          all_goals go_roundw
          all_goals first | (simp [intOf]; omega) | exact rel_same hk6 hl he hB4 hvv | skip
          all_goals refine rel_more hk6 hl he hB4 hvv 3 (.num n) _ ?_ hn ?_ ?_ ?_ ?_ ?_ ?_
          all_goals first | rfl | omega | (simp only [Tm.val]; omega)
      · by_cases hn0 : n = 0
        · go_wp2
          all_goals go_roundw
          all_goals first | (simp [intOf]; omega) | exact rel_same hk6 hl he hB4 hvv
        · go_wp2
          all_goals go_roundw
          all_goals first | (simp [intOf]; omega) | exact rel_same hk6 hl he hB4 hvv | skip
          all_goals refine rel_more hk6 hl he hB4 hvv 4 (.num n) _ ?_ hn ?_ ?_ ?_ ?_ ?_ ?_
          all_goals first | rfl | omega | (simp only [Tm.val]; omega)
      · go_wp2
        all_goals go_roundw
        all_goals first | (simp [intOf]; omega) | exact rel_same hk6 hl he hB4 hvv | skip
        all_goals refine rel_more hk6 hl he hB4 hvv 5 (.num n) _ ?_ hn ?_ ?_ ?_ ?_ ?_ ?_
        all_goals first | exact bits_and hfit.1 hfit.2 hn | omega | (simp only [Tm.val]; omega)
      · go_wp2
        all_goals go_roundw
        all_goals first | (simp [intOf]; omega) | exact rel_same hk6 hl he hB4 hvv | skip
        all_goals refine rel_more hk6 hl he hB4 hvv 6 (.num n) _ ?_ hn ?_ ?_ ?_ ?_ ?_ ?_
        all_goals first | exact bits_or hfit.1 hfit.2 hn | omega | (simp only [Tm.val]; omega)
      · go_wp2
        all_goals go_roundw
        all_goals first | (simp [intOf]; omega) | exact rel_same hk6 hl he hB4 hvv | skip
        all_goals refine rel_more hk6 hl he hB4 hvv 7 (.num n) _ ?_ hn ?_ ?_ ?_ ?_ ?_ ?_
        all_goals first | exact bits_xor hfit.1 hfit.2 hn | omega | (simp only [Tm.val]; omega)
      · go_wp2_with (go_at_call 18; refine (dec_calls (n := n % 8) _ (by omega)).mono ?_)
        rintro e w5 ⟨rfl, b5⟩
        have hB4 := hB4.trans (b5.mono hB4.size)
        have hz3 : (decB (n % 8)).length ≤ 3 := (decB_len _).2
        go_wp2
        all_goals go_roundw
        all_goals first | (simp [intOf]; omega) | exact rel_same hk6 hl he hB4 hvv | skip
        all_goals refine rel_more hk6 hl he hB4 hvv 8 (.num (n % 8)) _ ?_ (show n % 8 < 1000 by omega) ?_ ?_ ?_ ?_ ?_ ?_
        all_goals first | exact shl_is hfit.1 hfit.2 | omega | (simp only [Tm.val]; omega)
      · go_wp2_with (go_at_call 18; refine (dec_calls (n := n % 8) _ (by omega)).mono ?_)
        rintro e w5 ⟨rfl, b5⟩
        have hB4 := hB4.trans (b5.mono hB4.size)
        have hz3 : (decB (n % 8)).length ≤ 3 := (decB_len _).2
        go_wp2
        all_goals go_roundw
        all_goals first | (simp [intOf]; omega) | exact rel_same hk6 hl he hB4 hvv | skip
        all_goals refine rel_more hk6 hl he hB4 hvv 9 (.num (n % 8)) _ ?_ (show n % 8 < 1000 by omega) ?_ ?_ ?_ ?_ ?_ ?_
        all_goals first | exact shr_is | omega | (simp only [Tm.val]; omega)
      · go_wp2
        all_goals go_roundw
        all_goals first | (simp [intOf]; omega) | exact rel_same hk6 hl he hB4 hvv | skip
        all_goals refine rel_more hk6 hl he hB4 hvv 10 (.num n) _ ?_ hn ?_ ?_ ?_ ?_ ?_ ?_
        all_goals first | rfl | omega | (simp only [Tm.val]; omega)
    · have hN : NamesAt wr v0 0 (.slice none 0 0) := rfl
      have hl6 : l.length ≤ 6 := by omega
      have c1 := fun w h => eval_one (w := w) (m := 0) (by omega) (nv := .slice none 0 0) h hl6 he
      have c2 := fun w h => (hl_txt l) ▸ eval_two (w := w) (m := 0) (by omega) (nv := .slice none 0 0) h hl6 he
      have hx : eV v0 l / 256 % 256 * 256 + eV v0 l % 256 = eV v0 l % 65536 := by omega
      rw [hx] at c2
      clear hx
      generalize eV v0 l = v at hfit c1 c2 ⊢
      have hand := and_low hfit.1 hfit.2
      by_cases hlt' : k < len
      · have h6 : k = 6 := by omega
        go_wp2_with (go_at_call 19; refine (c1 _ rfl).mono ?_)
        rintro e w2 ⟨rfl, b2⟩
        have hB2 := hB.trans (b2.mono hB.size)
        go_wp2_with (go_at_call 19; refine (c2 _ rfl).mono ?_)
        rintro e w3 ⟨rfl, b3⟩
        have hB3 := hB2.trans (b3.mono hB2.size)
        clear c1 c2
        go_wp2
        all_goals go_ret
        all_goals exact ⟨rfl, hB3⟩
      · go_wp2_with (go_at_call 19; refine (c1 _ rfl).mono ?_)
        rintro e w2 ⟨rfl, b2⟩
        have hB2 := hB.trans (b2.mono hB.size)
        go_wp2_with (go_at_call 19; refine (c2 _ rfl).mono ?_)
        rintro e w3 ⟨rfl, b3⟩
        have hB3 := hB2.trans (b3.mono hB2.size)
        clear c1 c2
        go_wp2
        all_goals go_ret
        all_goals exact ⟨rfl, hB3⟩
end Go.Proofs.YtlmacdfbdhpljaaGreatDoor
