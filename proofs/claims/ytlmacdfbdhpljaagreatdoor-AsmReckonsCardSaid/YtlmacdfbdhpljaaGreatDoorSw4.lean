/- Own text: the calls of AsmReckons, told in the world's words. -/
import Derived.Test.YtlmacdfbdhpljaaGreatDoorSw3
import Derived.Test.YtlmacdfbdhpljaaGreatDoorXx
import Derived.Test.YtlmacdfbdhpljaaGreatDoorDc
import Derived.Below
namespace Go.Proofs.YtlmacdfbdhpljaaGreatDoor
open Go.Ev Go.Ev.Tr Go.Proofs Go.RowKit
set_option maxRecDepth 1000000
def renH (H : Nat → Option (List Value)) : Ren := ⟨fun id => if id < 6 then some (id, 20) else none, H⟩
/-- A world of which only some blocks are known, that do not change any more. -/
theorem relH {w : World} {H : Nat → Option (List Value)} (hk : ∀ B l, H B = some l → ∃ t fz, w.heap[B]? = some (.cells ⟨l⟩ t fz)) : Rel ⟨w, renH H, 6⟩ (fun _ => False) 6 noRO (renH H) (startHp 6 1000000) w := by
  refine ⟨fun id b h => (by cases h), fun i j b c B t t' h _ _ _ => (by cases h), fun id b h => (by cases h), fun id h1 h2 => ?_, fun _ _ _ => rfl, Nat.le_refl _, rfl, rfl, rfl, fun g hlt => ⟨20, ?_⟩, fun id x h => .inl h, Nat.le_refl _, hk, fun id b B t h => (by cases h), fun B l h => .inl h⟩
  · have h1 : 6 ≤ id := h1
    show (if id < 6 then some (id, 20) else none) = none
    rw [if_neg (by omega)]
  · show (if g < 6 then some (g, 20) else none) = _
    rw [if_pos hlt]
theorem relN (w : World) : Rel ⟨w, renH fun _ => none, 6⟩ (fun _ => False) 6 noRO (renH fun _ => none) (startHp 6 1000000) w := relH fun _ _ h => by cases h
theorem kept_of {w w' : World} {ρ ρ' : Ren} {n : Nat} {ro : RO} {hp : Hp} (h : Rel ⟨w, ρ, n⟩ (fun _ => False) 6 ro ρ' hp w') : Below w.heap.size w w' :=
  ⟨h.os, h.tape, h.output, h.size, fun k hk => h.frame k hk (fun f => f)⟩
theorem awake_calls (w : World) : Calls Tryz.prog 15 #[] w fun e w' => e = .returned (.bool true) ∧ Below w.heap.size w w' := by
  obtain ⟨_, g⟩ := awake_at noRO _ [] (.ret (.bool true), startHp 6 1000000) rfl _ _ _ w [] (relN w) rfl
  refine g.mono fun e w' ⟨ρ', _, k2, x, k3, k4⟩ => ⟨?_, kept_of k2⟩
  rw [k3, show x = .bool true from k4]
theorem pick_calls (w : World) {c : Int} (hc1 : kmin .i64 ≤ c ∧ c ≤ kmax .i64) {m : Nat} (h1 : 1 ≤ m) (h2 : m ≤ 65536) : Calls Tryz.prog 17 #[.int .i64 c, .int .i64 m] w fun e w' => (∃ n : Nat, e = .returned (.int .i64 n) ∧ n < m) ∧ Below w.heap.size w w' := by
  have hrun : (pickSum noRO (startHp 6 1000000) [.int .i64 ⟨c, kmin .i64, kmax .i64⟩, .int .i64 (I.lit m)]).run = some (.ret (.int .i64 (pckI ⟨c, kmin .i64, kmax .i64⟩ m)), startHp 6 1000000) := by
    simp only [pickSum]
    rw [show litI (I.lit (m : Int)) = some m by simp [litI, I.lit, ieq, show ile 0 (m : Int) = true from ile_iff.2 (by omega)]]
    simp only
    rw [show (Nat.ble 1 m && Nat.ble m 65536 && ile (kmin .i64) (kmin .i64) && ile (kmax .i64) (kmax .i64)) = true by
      simp only [Bool.and_eq_true, Nat.ble_eq, ile_iff]; omega]
    rfl
  obtain ⟨_, g⟩ := pick_at noRO _ _ _ hrun _ _ _ w [.int .i64 c, .int .i64 m] (relN w) ⟨_, _, rfl, ⟨c, rfl, rfl, hc1.1, hc1.2⟩, _, _, rfl, ⟨m, rfl, IR.lit _⟩, rfl⟩
  refine g.mono fun e w' ⟨ρ', _, k2, x, k3, n, k4, k5⟩ => ⟨?_, kept_of k2⟩
  subst k4
  have hn : n = pckV c m := k5.1
  have hin := pckV_in (c := c) (n := (m : Int)) (by omega)
  refine ⟨n.toNat, ?_, by omega⟩
  rw [k3, show ((n.toNat : Nat) : Int) = n by omega]
theorem dgI_byte : ∀ m : Nat, m < 10 → Ev.byteOf (dgI (m : Int)) = dB m := by
  intro m hm
  have h : m = 0 ∨ m = 1 ∨ m = 2 ∨ m = 3 ∨ m = 4 ∨ m = 5 ∨ m = 6 ∨ m = 7 ∨ m = 8 ∨ m = 9 := by omega
  rcases h with rfl | rfl | rfl | rfl | rfl | rfl | rfl | rfl | rfl | rfl <;> rfl
theorem dec_calls (w : World) {n : Nat} (hn : n < 1000) : Calls Tryz.prog 18 #[.int .i64 n] w fun e w' => e = .returned (.string ⟨⟨decB n⟩⟩) ∧ Below w.heap.size w w' := by
  have key : ∃ s : List I, (decSum noRO (startHp 6 1000000) [.int .i64 ⟨n, 0, 999⟩]).run = some (.ret (.str s), startHp 6 1000000) ∧ s.map Ev.byteOf = decB n := by
    unfold decSum
    simp only
    rw [show (decide True && ile 0 0 && ile 999 99999) = true by decide]
    simp only [T.run]
    unfold decB
    by_cases h1 : n < 10
    · rw [decide_eq_true (show (n : Int) < 10 by omega), if_pos h1]
      exact ⟨_, rfl, by show [Ev.byteOf (dgI (n : Int))] = _; rw [dgI_byte n h1]⟩
    · rw [decide_eq_false (show ¬ (n : Int) < 10 by omega), if_neg h1]
      by_cases h2 : n < 100
      · rw [decide_eq_true (show (n : Int) < 100 by omega), if_pos h2]
        refine ⟨_, rfl, ?_⟩
        show [Ev.byteOf (dgI ((n : Int) / 10)), Ev.byteOf (dgI ((n : Int) % 10))] = _
        rw [show (n : Int) / 10 = ((n / 10 : Nat) : Int) by omega, show (n : Int) % 10 = ((n % 10 : Nat) : Int) by omega, dgI_byte _ (by omega), dgI_byte _ (by omega)]
      · rw [decide_eq_false (show ¬ (n : Int) < 100 by omega), if_neg h2, decide_eq_true (show (n : Int) < 1000 by omega)]
        refine ⟨_, rfl, ?_⟩
        show [Ev.byteOf (dgI ((n : Int) / 10 / 10)), Ev.byteOf (dgI ((n : Int) / 10 % 10)), Ev.byteOf (dgI ((n : Int) % 10))] = _
        rw [show (n : Int) / 10 / 10 = ((n / 10 / 10 : Nat) : Int) by omega, show (n : Int) / 10 % 10 = ((n / 10 % 10 : Nat) : Int) by omega, show (n : Int) % 10 = ((n % 10 : Nat) : Int) by omega, dgI_byte _ (by omega), dgI_byte _ (by omega), dgI_byte _ (by omega)]
  obtain ⟨s, hrun, hs⟩ := key
  obtain ⟨_, g⟩ := dec_at noRO _ _ _ hrun _ _ _ w [.int .i64 n] (relN w) ⟨_, _, rfl, ⟨n, rfl, rfl, by show (0 : Int) ≤ n; omega, by show (n : Int) ≤ 999; omega⟩, rfl⟩
  refine g.mono fun e w' ⟨ρ', _, k2, x, k3, k4⟩ => ⟨?_, kept_of k2⟩
  rw [k3, k4.1, hs]
/-- The names lie here: none, or some in a block. -/
def NamesAt (w : World) (vs : Nat → Int) : Nat → Value → Prop
  | 0, v => v = .slice none 0 0
  | m + 1, v => ∃ B cap l r t fz, v = .slice (some ⟨B, 0, none⟩) (m + 1) cap ∧ m + 1 ≤ cap ∧ w.heap[B]? = some (.cells ⟨l ++ r⟩ t fz) ∧ FRs (fun _ => none) (nmL vs 0 (m + 1)) l
def nmD (vs : Nat → Int) : Nat → Dv
  | 0 => .nils
  | m + 1 => .sl 2 (nmL vs 0 (m + 1))
theorem nmC_eq (vs : Nat → Int) (m : Nat) : nmC vs m = .ptr [nmD vs m] 0 := by cases m <;> rfl
theorem nmL_len (vs : Nat → Int) : ∀ n i, (nmL vs i n).length = 2 * n
  | 0, _ => rfl
  | n + 1, i => by
    have := nmL_len vs n (i + 1)
    simp only [nmL, List.length_cons]
    omega
theorem eval_calls {w : World} {vs : Nat → Int} {m : Nat} {nv : Value} (hN : NamesAt w vs m nv) {txt : List UInt8} {d : Dv} {K k : Nat} {v : Int} (hx : EX K 0 (scA [] txt 0) (scA txt [] 0) d) (hl : txt.length ≤ 200) (hv : evM k (nmC vs m) d 5 = some v) :
    Calls Tryz.prog 19 #[.string ⟨⟨txt⟩⟩, nv, .int .i64 5] w fun e w' => e = .returned (.tuple #[.int .i64 v, .int .i64 0, .int .i64 0]) ∧ Below w.heap.size w w' := by
  obtain ⟨h1, h2⟩ := hx K (Nat.le_refl _)
  have hrun := eval_ev (lv K).pe (lv K).e (evM k) txt (nmD vs m) 5
  have h1 : (lv K).pe (sc1 txt) 0 = true := h1
  have h2 : (lv K).e (sc1 txt) 0 = (false, d, toMv (scA txt [] 0)) := h2
  have hup : upd (sc1 txt) (toMv (scA txt [] 0)) = scA txt [] 0 := by
    unfold upd toMv scA
    simp
  have hin0 : inSc (sc1 txt) = true := scA_in (pre := []) (w := txt) (o := 0) ⟨by simp; omega, by omega, by omega⟩
  have hin1 : inSc (scA txt [] 0) = true := scA_in ⟨by simp; omega, by omega, by omega⟩
  have haf : afterBl (scA txt [] 0) = (txt.length : Int) := by
    unfold afterBl
    rw [scA_drop]
    show (txt.length : Int) + ((0 : Nat) : Int) = _
    simp
  rw [decide_eq_false (by omega), h1, h2, hin0, show okI6 0 = true from rfl] at hrun
  simp only [cond_false, cond_true, Bool.and_self, Bool.and_true] at hrun
  rw [hup, hin1, haf, decide_eq_false (by omega), ← nmC_eq, hv] at hrun
  simp only [cond_false, cond_true, Option.isSome_some, Option.getD_some] at hrun
  obtain ⟨⟨e, hp'⟩, g1, g2⟩ := T.run_bind_some hrun
  injection g2 with g2
  unfold retE at g2
  split at g2 <;> try (cases g2; done)
  rename_i kk i k1 p k2 ee he
  split at g2 <;> try (cases g2; done)
  rename_i hc
  simp only [Bool.and_eq_true, decide_eq_true_eq] at hc
  obtain ⟨⟨rfl, rfl, rfl⟩, z1, z2⟩ := hc
  have he : e = .ret (.tup [.int .i64 i, .int .i64 p, .int .i64 ee]) := he
  subst he
  injection g2 with g2
  have key : ∃ H : Nat → Option (List Value), (∀ B l, H B = some l → ∃ t fz, w.heap[B]? = some (.cells ⟨l⟩ t fz)) ∧ FR H (nmD vs m) nv := by
    cases m with
    | zero => exact ⟨fun _ => none, ⟨(fun B l h => nomatch (show (none : Option (List Value)) = some l from h)), hN⟩⟩
    | succ m =>
      obtain ⟨B, cap, l, r, t, fz, rfl, hcap, hw, hfr⟩ := hN
      refine ⟨fun b => if b = B then some (l ++ r) else none, fun b l' h => ?_, B, l, r, m + 1, cap, rfl, if_pos rfl, ?_, by rw [nmL_len]; omega, hcap⟩
      · have h : (if b = B then some (l ++ r) else none) = some l' := h
        split at h
        · rename_i hb
          injection h with h; subst h; subst hb
          exact ⟨t, fz, hw⟩
        · cases h
      · exact FRs.mono (fun _ _ h => by cases h) _ _ hfr
  obtain ⟨H, hH, hfr⟩ := key
  obtain ⟨_, g⟩ := callAOK (smV_ok (lv_at K).e (ev_at k)) _ _ _ _ _ g1 _ _ _ w [.string ⟨⟨txt⟩⟩, nv, .int .i64 5] (relH hH) ⟨_, _, rfl, ⟨rfl, by omega⟩, _, _, rfl, hfr, _, _, rfl, ⟨5, rfl, rfl, by decide, by decide⟩, rfl⟩
  refine g.mono fun e w' ⟨ρ', _, k2, x, k3, k4⟩ => ⟨?_, kept_of k2⟩
  obtain ⟨lt, rfl, u1, us1, rfl, ⟨n1, rfl, i1⟩, u2, us2, rfl, ⟨n2, rfl, i2⟩, u3, us3, rfl, ⟨n3, rfl, i3⟩, hz⟩ := k4
  have hz : us3 = [] := hz
  subst hz
  rw [k3, zero_of z1 i2, zero_of z2 i3, i1.1, g2]
end Go.Proofs.YtlmacdfbdhpljaaGreatDoor
