/- Own text: AsmReckons, walked through: with names. -/
import Derived.Test.YtlmacdfbdhpljaaGreatDoorSy3
namespace Go.Proofs.YtlmacdfbdhpljaaGreatDoor
open Go.Ev Go.Ev.Tr Go.Proofs Go.RowKit
set_option maxRecDepth 1000000
theorem und25 : Tryz.prog.underlying 25 = some (.slice 31) := Tryz.underlying25
theorem info31 : (Tryz.prog.info? 31).map (fun i => (i.zero, i.size, i.bytes)) = some (some (.agg #[.string ⟨⟨[]⟩⟩, .int .i64 0]), 2, 24) := by kernel_rfl
/-- The values of the names. -/
def vsP (g : Nat → Int) : Nat → Int := fun i => ((pckV (g i) ((1000 : Nat) : Int)).toNat : Nat)
def nmV (vs : Nat → Int) (i : Nat) : Nat → List Value
  | 0 => []
  | n + 1 => .string ⟨⟨[120, UInt8.ofNat (48 + i)]⟩⟩ :: .int .i64 (vs i) :: nmV vs (i + 1) n
theorem nmV_app (vs : Nat → Int) : ∀ n i, nmV vs i n ++ [.string ⟨⟨[120, UInt8.ofNat (48 + (i + n))]⟩⟩, .int .i64 (vs (i + n))] = nmV vs i (n + 1)
  | 0, i => rfl
  | n + 1, i => by
    have h := nmV_app vs n (i + 1)
    rw [show i + 1 + n = i + (n + 1) by omega] at h
    show _ :: _ :: (nmV vs (i + 1) n ++ _) = _ :: _ :: nmV vs (i + 1) (n + 1)
    rw [h]
theorem nmV_len (vs : Nat → Int) : ∀ n i, (nmV vs i n).length = n * 2
  | 0, i => rfl
  | n + 1, i => by
    have h := nmV_len vs n (i + 1)
    simp only [nmV, List.length_cons, h]; omega
theorem nmV_fr {vs : Nat → Int} (h : ∀ i, 0 ≤ vs i ∧ vs i < 1000) : ∀ n i, FRs (fun _ => none) (nmL vs i n) (nmV vs i n)
  | 0, i => rfl
  | n + 1, i => ⟨_, _, rfl, ⟨rfl, by simp⟩, _, _, rfl, ⟨rfl, by have := h i; show (-9223372036854775808 : Int) ≤ _; omega, by have := h i; show _ ≤ (9223372036854775807 : Int); omega⟩, nmV_fr h n (i + 1)⟩
theorem vsP_in (g : Nat → Int) (i : Nat) : 0 ≤ vsP g i ∧ vsP g i < 1000 := by
  have := pck_lt (g i) (m := 1000) (by omega)
  unfold vsP
  omega
theorem names_of {w : World} {base k : Nat} {nm : Value} {vs : Nat → Int} (hv : ∀ i, 0 ≤ vs i ∧ vs i < 1000) (h : w.ownsRow base 31 2 nm k (nmV vs 0 k)) (h0 : k = 0 → nm = .slice none 0 0) : NamesAt w vs k nm := by
  cases k with
  | zero => exact h0 rfl
  | succ k =>
    obtain ⟨h1, h2⟩ := h
    rcases h2 with ⟨_, h2⟩ | ⟨B, cap, cur, rfl, _, hB, hc, _, _, ht⟩
    · cases h2
    · refine ⟨B, cap, nmV vs 0 (k + 1), cur.toList.drop ((k + 1) * 2), 31, (0, 0), rfl, hc, ?_, nmV_fr hv _ _⟩
      rw [← ht, List.take_append_drop]
      exact hB
theorem owns_below {w w' : World} {base e size n : Nat} {v : Value} {xs : List Value} (h : w.ownsRow base e size v n xs) (hb : Below w.heap.size w w') : w'.ownsRow base e size v n xs := by
  obtain ⟨h1, h2⟩ := h
  refine ⟨h1, ?_⟩
  rcases h2 with h2 | ⟨B, cap, cur, hv, hg, hB, r⟩
  · exact .inl h2
  · exact .inr ⟨B, cap, cur, hv, hg, by rw [hb.block B (Ev.lt_of_heap hB)]; exact hB, r⟩
def nmb (k : Nat) : UInt8 := UInt8.ofNat (48 + k)
theorem decB_one {k : Nat} (h : k < 10) : decB k = [nmb k] := by
  unfold decB
  rw [if_pos h]
  rfl
theorem step_names {w w4 w5 : World} {k n : Nat} {nm v' : Value} {vs : Nat → Int} (hB4 : Below w.heap.size w w4) (hown4 : w4.ownsRow w.heap.size 31 2 nm k (nmV vs 0 k)) {o : Obj} (hown5 : w5.ownsRow w.heap.size 31 2 v' (k + 1) (nmV vs 0 k ++ [.string (⟨⟨[120]⟩⟩ ++ ⟨⟨[nmb k]⟩⟩), .int .i64 n])) (hgrow : (w4.alloc o).grownBy w5 nm.ownBlock) (hvk : vs k = n) :
    w5.ownsRow w.heap.size 31 2 v' (k + 1) (nmV vs 0 (k + 1)) ∧ Below w.heap.size w w5 := by
  refine ⟨?_, (hB4.alloc hB4.size o).grown hgrow (by have := hB4.size; simp; omega) fun j hj => ?_⟩
  · have h := nmV_app vs k 0
    rw [Nat.zero_add] at h
    rw [← h, hvk]
    rw [ba_app] at hown5
    exact hown5
  · obtain ⟨_, h2⟩ := hown4
    rcases h2 with ⟨rfl, _⟩ | ⟨B, cap, cur, rfl, hg, _⟩
    · cases hj
    · injection hj with hj
      subst hj
      exact hg
/-- The loop's head, with names. -/
def RelN (w wr : World) (vs : Nat → Int) (i tx v nm : Value) : Prop := ∃ (k : Nat) (l : Exp), i = .int .i64 k ∧ tx = .string ⟨⟨eB l⟩⟩ ∧ v = .int .i64 (eV vs l) ∧ (wr.ownsRow w.heap.size 31 2 nm k (nmV vs 0 k) ∧ (k = 0 → nm = .slice none 0 0)) ∧ k ≤ 6 ∧ l.length ≤ k ∧ EOk vs k l ∧ Below w.heap.size w wr
theorem reln_same {vs : Nat → Int} {w w4 : World} {k : Nat} {l : Exp} {v : Int} {nm : Value} (hk6 : k < 6) (hl : l.length ≤ k) (he : EOk vs k l) (hB4 : Below w.heap.size w w4) (hvv : eV vs l = v) (hN : w4.ownsRow w.heap.size 31 2 nm (k + 1) (nmV vs 0 (k + 1))) :
    RelN w w4 vs (.int .i64 ((k : Int) + 1)) (.string ⟨⟨eB l⟩⟩) (.int .i64 v) nm :=
  ⟨k + 1, l, by go_num, rfl, by rw [hvv], ⟨hN, fun h => by omega⟩, by omega, by omega, he.up (by omega), hB4⟩
theorem reln_more {vs : Nat → Int} {w w4 : World} {k : Nat} {l : Exp} {v : Int} {nm : Value} (hk6 : k < 6) (hl : l.length ≤ k) (he : EOk vs k l) (hB4 : Below w.heap.size w w4) (hvv : eV vs l = v) (hN : w4.ownsRow w.heap.size 31 2 nm (k + 1) (nmV vs 0 (k + 1))) (q : Nat) (t : Tm) (x : Int) (tb : ByteArray) (htb : tb = ⟨⟨tmB t⟩⟩)
    (hx : x = stepV q v (t.val vs)) (ht : t.in (k + 1)) (t0 : 0 ≤ t.val vs) (t1 : t.val vs < 1000) (h1 : -2147483648 ≤ x) (h2 : x ≤ 2147483647) (h3 : q = 3 ∨ q = 4 → t.val vs ≠ 0) (h4 : q = 8 ∨ q = 9 → t.val vs ≤ 7) :
    RelN w w4 vs (.int .i64 ((k : Int) + 1)) (.string (⟨⟨[40]⟩⟩ ++ ⟨⟨eB l⟩⟩ ++ ⟨⟨[32]⟩⟩ ++ ⟨⟨opWr q⟩⟩ ++ ⟨⟨[32]⟩⟩ ++ tb ++ ⟨⟨[41]⟩⟩)) (.int .i64 x) nm := by
  subst htb
  exact ⟨k + 1, (q, t) :: l, by go_num, congrArg Value.string (txt_step q t l), congrArg (Value.int .i64) (by rw [hx, ← hvv]; rfl), ⟨hN, fun h => by omega⟩, by omega, by simp; omega, ⟨he.up (by omega), ht, by rw [hvv, ← hx]; exact fits_iff.2 ⟨h1, h2⟩, t0, t1, h3, h4⟩, hB4⟩
theorem tb_nm (k : Nat) : (⟨⟨[120]⟩⟩ : ByteArray) ++ ⟨⟨[nmb k]⟩⟩ = ⟨⟨tmB (.nm k)⟩⟩ := ba_app _ _
set_option maxHeartbeats 8000000 in
theorem reckons_named {w : World} {ao : Option Addr} {len cap : Nat} {f g : Nat → Int} (hA : ArgP w ao len f g) (_ : len ≤ maxLen) :
    Calls Tryz.prog 4 #[.slice ao len cap, .bool true] w fun e w' => e = .returned (.bool true) ∧ Below w.heap.size w w' := by
  obtain ⟨i0, hi, hi0, hi1, hi2⟩ := info_parts info31
  go_enter Tryz.func4, Tryz.ntmps4
  go_wp2_with (go_at_call 15; refine (awake_calls _).mono ?_)
  rintro e w1 ⟨rfl, b1⟩
  go_wp2
  go_loopw [6, 7, 8, 9] (fun tx v nm i wr => RelN w wr (vsP g) i tx v nm) (fun _ _ _ i _ => 6 - (intOf i).toNat)
  case atStart => exact ⟨0, [], rfl, rfl, rfl, ⟨World.ownsRow_nil _ _ _ _, fun _ => rfl⟩, by omega, by simp, trivial, b1⟩
  case round =>
    obtain ⟨k, l, rfl, rfl, rfl, ⟨hown, hnil⟩, hk, hl, he, hB⟩ := hrel
    have hfit := fits_iff.1 (eV_fits he)
    have hz1 : (eB l).length ≤ 100 := by have := eB_len l; omega
    by_cases hlt : k < len ∧ k < 6
    · obtain ⟨hlt, hk6⟩ := hlt
      obtain ⟨B, off, rfl, hP⟩ := hA (by omega)
      have hb := hP.lt (by omega)
      have d2 : wr.cell? ⟨B, off + k * 2 + 1, none⟩ = some (.int .i64 (g k)) := (hB.cell hb).trans (hP.cg k hlt)
      have bf := hP.bf k hlt
      have bg := hP.bg k hlt
      have hn := pck_lt (g k) (m := 1000) (by omega)
      have ho := pck_lt (f k) (m := 11) (by omega)
      have hvk : vsP g k = ((pckV (g k) ((1000 : Nat) : Int)).toNat : Nat) := rfl
      go_wp2_with (go_at_call 17; refine (pick_is _ bg (m := 1000) (by omega) (by omega)).mono ?_)
      generalize (pckV (g k) ((1000 : Nat) : Int)).toNat = n at hn hvk ⊢
      rintro e w2 ⟨rfl, b2⟩
      have hB2 := hB.trans (b2.mono hB.size)
      go_wp2_with (go_at_call 18; refine (dec_calls _ hn).mono ?_)
      rintro e w3 ⟨rfl, b3⟩
      have hB3 := hB2.trans (b3.mono hB2.size)
      have hz2 : (decB n).length ≤ 3 := (decB_len n).2
      go_wp2_with (go_at_call 18; refine (dec_calls (n := k) _ (by omega)).mono ?_)
      rw [decB_one (by omega)]
      rintro e w4 ⟨rfl, b4⟩
      have hB4 := hB3.trans (b4.mono hB3.size)
      have hown4 := owns_below (owns_below (owns_below hown b2) b3) b4
      have hbs : w.heap.size ≤ w4.heap.size := hB4.size
      clear b2 b3 b4 d2 hB hB2 hB3
      go_wp2_with (at_builtin; go_loud (refine wpList_append_own _ rfl _ _ 25 rfl w.heap.size 31 i0 _ 2 24 und25 hi hi0 hi1 hi2 rfl (by decide) _ _ _ rfl (hown4.alloc _) ⟨w4.heap.size, 0, none⟩ 1 1 [.string (⟨⟨[120]⟩⟩ ++ ⟨⟨[nmb k]⟩⟩), .int .i64 n] rfl rfl ?c1 ?c2 ?c3 ?c4 ?c5 ?_))
      case c1 =>
        intro j u hj
        match j, hj with
        | 0, hj => simp at hj; subst hj; simp [Addr.add]
        | 1, hj => simp at hj; subst hj; simp [Addr.add]
      case c2 => intro u hu; simp at hu; rcases hu with rfl | rfl <;> rfl
      case c3 => unfold maxLen; omega
      case c4 => omega
      case c5 => have := hB4.size; simp; omega
      intro v' w5 hown5 hgrow _
      obtain ⟨hown5, hB5⟩ := step_names hB4 hown4 hown5 hgrow hvk
      have d1 : w5.cell? ⟨B, off + k * 2, none⟩ = some (.int .i64 (f k)) := (hB5.cell hb).trans (hP.cf k hlt)
      clear hgrow hown4 hown hB4
      go_wp2_with (go_at_call 17; refine (pick_is _ bf (m := 11) (by omega) (by omega)).mono ?_)
      generalize (pckV (f k) ((11 : Nat) : Int)).toNat = p at ho ⊢
      rintro e w6 ⟨rfl, b6⟩
      have hB6 := hB5.trans (b6.mono hB5.size)
      have hown6 := owns_below hown5 b6
      clear b6 d1 hB5 hown5
      generalize hvv : eV (vsP g) l = v at hfit ⊢
      have hp : p = 0 ∨ p = 1 ∨ p = 2 ∨ p = 3 ∨ p = 4 ∨ p = 5 ∨ p = 6 ∨ p = 7 ∨ p = 8 ∨ p = 9 ∨ p = 10 := by omega
      rcases hp with rfl | rfl | rfl | rfl | rfl | rfl | rfl | rfl | rfl | rfl | rfl
      · go_wp2
        all_goals go_roundw
        all_goals first | (simp [intOf]; omega) | exact reln_same hk6 hl he hB6 hvv hown6 | skip
        all_goals refine reln_more hk6 hl he hB6 hvv hown6 0 (.nm k) _ _ (tb_nm k) ?_ (Nat.lt_succ_self k) ?_ ?_ ?_ ?_ ?_ ?_
        all_goals first | (rw [Tm.val, hvk]; rfl) | omega | (simp only [Tm.val, hvk]; omega)
      · go_wp2
        all_goals go_roundw
        all_goals first | (simp [intOf]; omega) | exact reln_same hk6 hl he hB6 hvv hown6 | skip
        all_goals refine reln_more hk6 hl he hB6 hvv hown6 1 (.nm k) _ _ (tb_nm k) ?_ (Nat.lt_succ_self k) ?_ ?_ ?_ ?_ ?_ ?_
        all_goals first | (rw [Tm.val, hvk]; rfl) | omega | (simp only [Tm.val, hvk]; omega)
      · obtain ⟨m1, m2⟩ := mul_bd hfit.1 hfit.2 hn
        go_wp2
        all_goals go_roundw
        all_goals first | (simp [intOf]; omega) | exact reln_same hk6 hl he hB6 hvv hown6 | skip
        all_goals refine reln_more hk6 hl he hB6 hvv hown6 2 (.nm k) _ _ (tb_nm k) ?_ (Nat.lt_succ_self k) ?_ ?_ ?_ ?_ ?_ ?_
        all_goals first | (rw [Tm.val, hvk]; rfl) | omega | (simp only [Tm.val, hvk]; omega)
      · by_cases hn0 : n = 0
        · go_wp2
          all_goals go_roundw
          all_goals first | (simp [intOf]; omega) | exact reln_same hk6 hl he hB6 hvv hown6
        · go_wp2
          all_goals go_roundw
          all_goals first | (simp [intOf]; omega) | exact reln_same hk6 hl he hB6 hvv hown6 | skip
          all_goals refine reln_more hk6 hl he hB6 hvv hown6 3 (.nm k) _ _ (tb_nm k) ?_ (Nat.lt_succ_self k) ?_ ?_ ?_ ?_ ?_ ?_
          all_goals first | (rw [Tm.val, hvk]; rfl) | omega | (simp only [Tm.val, hvk]; omega)
      · by_cases hn0 : n = 0
        · go_wp2
          all_goals go_roundw
          all_goals first | (simp [intOf]; omega) | exact reln_same hk6 hl he hB6 hvv hown6
        · go_wp2
          all_goals go_roundw
          all_goals first | (simp [intOf]; omega) | exact reln_same hk6 hl he hB6 hvv hown6 | skip
          all_goals refine reln_more hk6 hl he hB6 hvv hown6 4 (.nm k) _ _ (tb_nm k) ?_ (Nat.lt_succ_self k) ?_ ?_ ?_ ?_ ?_ ?_
          all_goals first | (rw [Tm.val, hvk]; rfl) | omega | (simp only [Tm.val, hvk]; omega)
      · go_wp2
        all_goals go_roundw
        all_goals first | (simp [intOf]; omega) | exact reln_same hk6 hl he hB6 hvv hown6 | skip
        all_goals refine reln_more hk6 hl he hB6 hvv hown6 5 (.nm k) _ _ (tb_nm k) ?_ (Nat.lt_succ_self k) ?_ ?_ ?_ ?_ ?_ ?_
        all_goals first | (rw [Tm.val, hvk]; exact bits_and hfit.1 hfit.2 hn) | omega | (simp only [Tm.val, hvk]; omega)
      · go_wp2
        all_goals go_roundw
        all_goals first | (simp [intOf]; omega) | exact reln_same hk6 hl he hB6 hvv hown6 | skip
        all_goals refine reln_more hk6 hl he hB6 hvv hown6 6 (.nm k) _ _ (tb_nm k) ?_ (Nat.lt_succ_self k) ?_ ?_ ?_ ?_ ?_ ?_
        all_goals first | (rw [Tm.val, hvk]; exact bits_or hfit.1 hfit.2 hn) | omega | (simp only [Tm.val, hvk]; omega)
      · go_wp2
        all_goals go_roundw
        all_goals first | (simp [intOf]; omega) | exact reln_same hk6 hl he hB6 hvv hown6 | skip
        all_goals refine reln_more hk6 hl he hB6 hvv hown6 7 (.nm k) _ _ (tb_nm k) ?_ (Nat.lt_succ_self k) ?_ ?_ ?_ ?_ ?_ ?_
        all_goals first | (rw [Tm.val, hvk]; exact bits_xor hfit.1 hfit.2 hn) | omega | (simp only [Tm.val, hvk]; omega)
      · go_wp2_with (go_at_call 18; refine (dec_calls (n := n % 8) _ (by omega)).mono ?_)
        rintro e w7 ⟨rfl, b7⟩
        have hB6 := hB6.trans (b7.mono hB6.size)
        have hown6 := owns_below hown6 b7
        have hz3 : (decB (n % 8)).length ≤ 3 := (decB_len _).2
        go_wp2
        all_goals go_roundw
        all_goals first | (simp [intOf]; omega) | exact reln_same hk6 hl he hB6 hvv hown6 | skip
        all_goals refine reln_more hk6 hl he hB6 hvv hown6 8 (.num (n % 8)) _ _ (rfl) ?_ (show n % 8 < 1000 by omega) ?_ ?_ ?_ ?_ ?_ ?_
        all_goals first | exact shl_is hfit.1 hfit.2 | omega | (simp only [Tm.val]; omega)
      · go_wp2_with (go_at_call 18; refine (dec_calls (n := n % 8) _ (by omega)).mono ?_)
        rintro e w7 ⟨rfl, b7⟩
        have hB6 := hB6.trans (b7.mono hB6.size)
        have hown6 := owns_below hown6 b7
        have hz3 : (decB (n % 8)).length ≤ 3 := (decB_len _).2
        go_wp2
        all_goals go_roundw
        all_goals first | (simp [intOf]; omega) | exact reln_same hk6 hl he hB6 hvv hown6 | skip
        all_goals refine reln_more hk6 hl he hB6 hvv hown6 9 (.num (n % 8)) _ _ (rfl) ?_ (show n % 8 < 1000 by omega) ?_ ?_ ?_ ?_ ?_ ?_
        all_goals first | exact shr_is | omega | (simp only [Tm.val]; omega)
      · go_wp2
        all_goals go_roundw
        all_goals first | (simp [intOf]; omega) | exact reln_same hk6 hl he hB6 hvv hown6 | skip
        all_goals refine reln_more hk6 hl he hB6 hvv hown6 10 (.nm k) _ _ (tb_nm k) ?_ (Nat.lt_succ_self k) ?_ ?_ ?_ ?_ ?_ ?_
        all_goals first | (rw [Tm.val, hvk]; rfl) | omega | (simp only [Tm.val, hvk]; omega)
    · have hN := names_of (vsP_in g) hown hnil
      have hl6 : l.length ≤ 6 := by omega
      have c1 := fun w nv h => eval_one (w := w) (m := k) (by omega) (nv := nv) h hl6 he
      have c2 := fun w nv h => (hl_txt l) ▸ eval_two (w := w) (m := k) (by omega) (nv := nv) h hl6 he
      have hx : eV (vsP g) l / 256 % 256 * 256 + eV (vsP g) l % 256 = eV (vsP g) l % 65536 := by omega
      rw [hx] at c2
      clear hx
      generalize eV (vsP g) l = v at hfit c1 c2 ⊢
      have hand := and_low hfit.1 hfit.2
      by_cases hlt' : k < len
      · have h6 : k = 6 := by omega
        go_wp2_with (go_at_call 19; refine (c1 _ _ hN).mono ?_)
        rintro e w2 ⟨rfl, b2⟩
        have hB2 := hB.trans (b2.mono hB.size)
        have hN2 := names_of (vsP_in g) (owns_below hown b2) hnil
        go_wp2_with (go_at_call 19; refine (c2 _ _ hN2).mono ?_)
        rintro e w3 ⟨rfl, b3⟩
        have hB3 := hB2.trans (b3.mono hB2.size)
        clear c1 c2
        go_wp2
        all_goals go_ret
        all_goals exact ⟨rfl, hB3⟩
      · go_wp2_with (go_at_call 19; refine (c1 _ _ hN).mono ?_)
        rintro e w2 ⟨rfl, b2⟩
        have hB2 := hB.trans (b2.mono hB.size)
        have hN2 := names_of (vsP_in g) (owns_below hown b2) hnil
        go_wp2_with (go_at_call 19; refine (c2 _ _ hN2).mono ?_)
        rintro e w3 ⟨rfl, b3⟩
        have hB3 := hB2.trans (b3.mono hB2.size)
        clear c1 c2
        go_wp2
        all_goals go_ret
        all_goals exact ⟨rfl, hB3⟩
end Go.Proofs.YtlmacdfbdhpljaaGreatDoor
