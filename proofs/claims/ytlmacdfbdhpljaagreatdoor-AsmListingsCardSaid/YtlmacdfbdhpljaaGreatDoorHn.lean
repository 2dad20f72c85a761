/- Own text: the law of Disasm, for every slice. -/
import Derived.Test.YtlmacdfbdhpljaaGreatDoorHm
namespace Go.Proofs.YtlmacdfbdhpljaaGreatDoor
open Go.Ev Go.Ev.Tr Go.Proofs Go.ChangeShapes Go.WideShapes Go.ChangeAt Go.RowKit
set_option maxRecDepth 1000000
theorem cL1_t {lo hi : Int} {s0 : Nat} {xs : List Int} {n clo : Int} (h1 : 0 ≤ n) (h2 : n ≤ 140737488351232) (h3 : n ≤ (xs.length : Int)) : cL1 lo hi s0 xs n clo = List.replicate 6 true := by
  apply all_true rfl
  simp only [cL1, List.mem_cons, List.not_mem_nil, or_false, forall_eq_or_imp, forall_eq, okStR, fillSp, fillCn, okTsR, okBsR, okKR, okCsR, Bool.and_true, Bool.true_and, Bool.and_eq_true, decide_eq_true_eq]
  and_intros <;> first | omega | exact True.intro | exact decide_eq_true (by omega)
theorem cL2_t {lo hi : Int} {s0 : Nat} {xs : List Int} {n : Int} (h1 : 0 ≤ n) (h2 : n ≤ 140737488351232) (h3 : n ≤ (xs.length : Int)) (h4 : lo ≤ n) (h5 : n ≤ hi) : cL2 lo hi s0 xs n = List.replicate 6 true := by
  apply all_true rfl
  simp only [cL2, List.mem_cons, List.not_mem_nil, or_false, forall_eq_or_imp, forall_eq, okStR, backSp, backCn, backBB, okTsR, okBsR, okKR, okCsR, Bool.and_true, Bool.true_and, Bool.and_eq_true, decide_eq_true_eq]
  and_intros <;> first | omega | exact True.intro | exact decide_eq_true (by omega)
theorem cL3_t {s0 : Nat} {xs : List Int} {n : Int} (_ : 0 ≤ n) : cL3 s0 xs n = [true] := by
  have := condsB3_t (s0 := s0) (xs := xs) (x := ⟨pl s0, n, 0, 0, true, true, 0, 0, 0, 0, 0, fun _ => 0⟩)
  exact this
theorem cA4_t {s0 : Nat} {xs : List Int} {n clo org : Int} (h1 : 0 ≤ n) (h2 : n ≤ 499) (h3 : n ≤ (xs.length : Int)) (ho : In64 org) : cA4 s0 xs n clo org = [true, true] := by
  obtain ⟨o1, o2⟩ := ho
  have cO : InO s0 xs (x0A s0 xs n clo org) := by
    unfold InO x0A
    simp only
    refine ⟨?_, ?_, ?_, ?_, ?_, ?_, ?_, ?_, ?_, rfl, rfl, rfl⟩ <;> omega
  have cA : InA (x0A s0 xs n clo org) := by
    refine ⟨h2, rfl, Int.le_refl _, ?_⟩
    show (((n + 64).toNat : Nat) : Int) = n + 64
    omega
  unfold cA4
  rw [decide_eq_true cO, decide_eq_true cA]
  have : okStM outSpA (outCnA (x0A s0 xs n clo org)) = true := by
    simp only [okStM, outSpA, outCnA, x0A, outTs, xs12, nul12, okStR, okTsR, okBsR, okKR, okCsR, lenMD, Bool.and_true, Bool.true_and, Bool.and_eq_true, decide_eq_true_eq]
    and_intros <;> first | omega | exact True.intro | exact decide_eq_true (by omega)
  rw [this]; rfl
theorem cB4_t {s0 : Nat} {xs : List Int} {n clo org : Int} (h1 : 500 ≤ n) (h2 : n ≤ 1048576) (h3 : n ≤ (xs.length : Int)) (ho : In64 org) : cB4 s0 xs n clo org = [true, true] := by
  obtain ⟨o1, o2⟩ := ho
  have cO : InO s0 xs (x0B s0 n clo org) := by
    unfold InO x0B
    simp only
    refine ⟨?_, ?_, ?_, ?_, ?_, ?_, ?_, ?_, ?_, rfl, rfl, rfl⟩ <;> omega
  unfold cB4
  rw [decide_eq_true cO, decide_eq_true h1]
  have : okStM outSpB (outCnB (x0B s0 n clo org)) = true := by
    simp only [okStM, outSpB, outCnB, x0B, outTs, xs12, nul12, okStR, okTsR, okBsR, okKR, okCsR, lenMD, Bool.and_true, Bool.true_and, Bool.and_eq_true, decide_eq_true_eq]
    and_intros <;> first | omega | exact True.intro | exact decide_eq_true (by omega)
  rw [this]; rfl
theorem x1_x2B {s0 : Nat} {xs : List Int} {n org i : Int} : x1A n org i (gB' s0 xs s0 n) = x2A s0 xs s0 n org i := x1_x2
theorem viewA_run {s0 : Nat} {xs : List Int} {n clo at' org : Int} (h1 : 0 ≤ n) (h2 : n ≤ 499) (h3 : n ≤ (xs.length : Int)) (ho : In64 org) : (viewA s0 xs n clo at' org).run = some true := by
  by_cases hv : 0 ≤ at' ∧ at' < n ∧ 0 ≤ org ∧ org ≤ 65535 ∧ org + n ≤ 65536
  · refine pathT_run (lawA_in s0 xs n clo at' org) ?_
    rw [cL1_t h1 (by omega) h3, cL2_t h1 (by omega) h3 h1 h2, cL3_t h1, cA4_t h1 h2 h3 ho, decide_eq_true (show 0 ≤ at' ∧ at' < n - 0 ∧ 0 ≤ org ∧ org ≤ 65535 ∧ org + (n - 0) ≤ 65536 by omega), decide_eq_true hv, x1_x2B, insEq_refl]
    rfl
  · refine pathT_run (lawA_out s0 xs n clo at' org) ?_
    rw [cL1_t h1 (by omega) h3, cL2_t h1 (by omega) h3 h1 h2, cL3_t h1, cA4_t h1 h2 h3 ho, decide_eq_false (show ¬ (0 ≤ at' ∧ at' < n - 0 ∧ 0 ≤ org ∧ org ≤ 65535 ∧ org + (n - 0) ≤ 65536) by omega), decide_eq_false hv]
    rfl
theorem viewB_run {s0 : Nat} {xs : List Int} {n clo at' org : Int} (h1 : 500 ≤ n) (h2 : n ≤ 1048576) (h3 : n ≤ (xs.length : Int)) (ho : In64 org) : (viewB s0 xs n clo at' org).run = some true := by
  by_cases hv : 0 ≤ at' ∧ at' < n ∧ 0 ≤ org ∧ org ≤ 65535 ∧ org + n ≤ 65536
  · refine pathT_run (lawB_in s0 xs n clo at' org) ?_
    rw [cL1_t (by omega) (by omega) h3, cL2_t (by omega) (by omega) h3 h1 (by omega), cL3_t (by omega), cB4_t h1 h2 h3 ho, decide_eq_true (show 0 ≤ at' ∧ at' < n - 0 ∧ 0 ≤ org ∧ org ≤ 65535 ∧ org + (n - 0) ≤ 65536 by omega), decide_eq_true hv, x1_x2B, insEq_refl]
    rfl
  · refine pathT_run (lawB_out s0 xs n clo at' org) ?_
    rw [cL1_t (by omega) (by omega) h3, cL2_t (by omega) (by omega) h3 h1 (by omega), cL3_t (by omega), cB4_t h1 h2 h3 ho, decide_eq_false (show ¬ (0 ≤ at' ∧ at' < n - 0 ∧ 0 ≤ org ∧ org ≤ 65535 ∧ org + (n - 0) ≤ 65536) by omega), decide_eq_false hv]
    rfl
theorem viewN_run {at' org : Int} (ha : In64 at') (ho : In64 org) : ∃ a o : I, IR a at' ∧ IR o org ∧ (viewN a o).run = some true := by
  obtain ⟨a1, a2⟩ := ha
  obtain ⟨o1, o2⟩ := ho
  have r1 : at' < 0 → IR ⟨at', -9223372036854775808, -1⟩ at' := fun h => ⟨rfl, a1, by show at' ≤ -1; omega⟩
  have r2 : ¬ at' < 0 → IR ⟨at', 0, 9223372036854775807⟩ at' := fun h => ⟨rfl, by show (0 : Int) ≤ at'; omega, a2⟩
  have s1 : org < 0 → IR ⟨org, -9223372036854775808, -1⟩ org := fun h => ⟨rfl, o1, by show org ≤ -1; omega⟩
  have s2 : ¬ org < 0 → org ≤ 65535 → IR ⟨org, 0, 65535⟩ org := fun h g => ⟨rfl, by show (0 : Int) ≤ org; omega, g⟩
  have s3 : ¬ org ≤ 65535 → IR ⟨org, 65536, 9223372036854775807⟩ org := fun h => ⟨rfl, by show (65536 : Int) ≤ org; omega, o2⟩
  by_cases p : at' < 0
  · by_cases q : org < 0
    · exact ⟨_, _, r1 p, s1 q, lawN1 _ _⟩
    · by_cases q2 : org ≤ 65535
      · exact ⟨_, _, r1 p, s2 q q2, lawN2 _ _⟩
      · exact ⟨_, _, r1 p, s3 q2, lawN3 _ _⟩
  · by_cases q : org < 0
    · exact ⟨_, _, r2 p, s1 q, lawN4 _ _⟩
    · by_cases q2 : org ≤ 65535
      · exact ⟨_, _, r2 p, s2 q q2, lawN5 _ _⟩
      · exact ⟨_, _, r2 p, s3 q2, lawN6 _ _⟩
theorem smZ_ok : ∀ f s, smZ f = some s → SumAt f s := sm_cons sm1_ok awake_at
theorem i64V_VR {ρ : Ren} {n : Int} (h : In64 n) : VR ρ (i64V n) (.int .i64 n) := ⟨n, rfl, rfl, h.1, h.2⟩
/-- A row, as the bound tells it. -/
theorem rowS {H : Type} {d : DataW H} {r : List (DataW H)} (hk : Rows.uptoSmall H (d :: r) = true) {v : Value} {W : World}
    (h : v = .slice none 0 0 ∨ ∃ B off len cap zs row t fz, v = .slice (some ⟨B, off, none⟩) len cap ∧ RowB W B off len cap zs row t fz ∧ d = .slice (lits .u8 (zs.take len)) (lits .u8 (zs.drop len))) :
    v = .slice none 0 0 ∨ ∃ B off len cap zs row t fz, v = .slice (some ⟨B, off, none⟩) len cap ∧ RowB W B off len cap zs row t fz ∧ cap ≤ 1048576 := by
  rcases h with h | ⟨B, off, len, cap, zs, row, t, fz, h1, h2, h3⟩
  · exact .inl h
  · refine .inr ⟨B, off, len, cap, zs, row, t, fz, h1, h2, ?_⟩
    subst h3
    have := bulk_slice hk
    simp only [lits, List.length_map, List.length_take, List.length_drop] at this
    have h4 := h2.hl
    have h5 := h2.hz
    omega
/-- The law of Disasm. -/
theorem disasm_law {W : World} (hL : laidMetH Tryz.prog laidL W) (hsh : W.ShapedOpen Tryz.prog) {v : Value} (at' org : Int)
    (hv : v = .slice none 0 0 ∨ ∃ B off len cap zs row t fz, v = .slice (some ⟨B, off, none⟩) len cap ∧ RowB W B off len cap zs row t fz ∧ cap ≤ 1048576) (ha : In64 at') (ho : In64 org) :
    Calls Tryz.prog 5 #[v, .int .i64 at', .int .i64 org] W fun e W' => e = .returned (.bool true) ∧ W.keptBut W' (fun _ => False) := by
  rcases hv with rfl | ⟨B, off, len, cap, zs, row, t, fz, rfl, hR, hcap⟩
  · obtain ⟨a, o, h1, h2, h3⟩ := viewN_run ha ho
    exact lawNil (l := [.slice none 0 0, .int .i64 at', .int .i64 org]) smZ_ok h3 (rel0 hL hsh) ⟨_, _, rfl, rfl, _, _, rfl, ⟨_, rfl, h1⟩, _, _, rfl, ⟨_, rfl, h2⟩, rfl⟩
  · have hl := hR.hl
    have hz := hR.hz
    have hrel := relB hL hsh hR
    by_cases h : len < 500
    · exact lawHook (l := [.slice (some ⟨B, off, none⟩) len cap, .int .i64 at', .int .i64 org]) (smH_ok told_at) (by kernel_rfl) (by kernel_rfl) loop5 (outHkA_ok told_at off zs) (viewA_run (s0 := off) (xs := zs) (n := len) (clo := len) (at' := at') (by omega) (by omega) (by omega) ho) hrel
        ⟨_, _, rfl, argV_VR hR (by omega) (by omega) (by simp only [magicS]; omega), _, _, rfl, i64V_VR ha, _, _, rfl, i64V_VR ho, rfl⟩
    · exact lawHook (l := [.slice (some ⟨B, off, none⟩) len cap, .int .i64 at', .int .i64 org]) (smH_ok told_at) (by kernel_rfl) (by kernel_rfl) loop5 (outHkB_ok told_at off zs) (viewB_run (s0 := off) (xs := zs) (n := len) (clo := len) (at' := at') (by omega) (by omega) (by omega) ho) hrel
        ⟨_, _, rfl, argV_VR hR (by omega) (by omega) (by simp only [magicS]; omega), _, _, rfl, i64V_VR ha, _, _, rfl, i64V_VR ho, rfl⟩
end Go.Proofs.YtlmacdfbdhpljaaGreatDoor
