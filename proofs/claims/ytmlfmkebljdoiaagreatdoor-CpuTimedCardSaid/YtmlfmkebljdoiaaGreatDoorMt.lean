/- Own text: CpuTimed: the law. -/
import Derived.Test.YtmlfmkebljdoiaaGreatDoorLt
import Derived.Test.YtmlfmkebljdoiaaGreatDoorTe
namespace Go.Proofs.YtmlfmkebljdoiaaGreatDoor
open Go.Ev Go.Ev.Tr Go.Proofs
set_option maxRecDepth 1000000
theorem goodX_bnd (r : Rg) : GoodX (bndR r) := ⟨bnd_in r, bnd_f16 r, rfl⟩
theorem startX {g : Rg} (h : GoodX g) : startP g = [true, false] := by
  unfold startP
  have h1 : fOk g = true := by unfold fOk; rw [h.f16]; rfl
  have h2 : eqRp g g = true := by simp [eqRp]
  rw [h1, h2]; rfl
theorem nxtN_eq : ∀ (n : Nat) (a : Int), 0 ≤ a → a ≤ 65535 → nxtN n a = (a + n) % 65536
  | 0, a, h0, h1 => by show a = _; omega
  | n + 1, a, h0, h1 => by
    show nxtN n (nxt a) = _
    rw [nxtN_eq n (nxt a) (nxt_in a).1 (nxt_in a).2]
    unfold nxt; omega
theorem byt_nonneg (b : Bool) (k : Int) : ((bytI b k).toNat : Int) = bytI b k := by unfold bytI; omega
theorem memT1 {g : Rg} (hg : GoodX g) (k b1 b2 : Int) : mT1 g k b1 b2 (pk16 g.PC) = k := by
  have h1 := hg.inr.hPC
  rw [pk16_id h1.1 h1.2]
  have h2 : pickV g.PC (65536 : Nat) = g.PC := pickV_id h1.1 (by omega)
  unfold mT1 adr
  simp only [memOf, h2]
  rw [if_neg (by omega), if_neg (by omega), if_pos (by omega)]
theorem memT2 {g : Rg} (hg : GoodX g) (k b2 : Int) : mT2 g k b2 (pk16 g.PC) = 203 ∧ at1 (mT2 g k b2) g = k := by
  have h1 := hg.inr.hPC
  have h2 : pickV g.PC (65536 : Nat) = g.PC := pickV_id h1.1 (by omega)
  have h3 : pk16 (nxt g.PC) = ((g.PC + 1) % 65536).toNat := pk16_id (nxt_in _).1 (nxt_in _).2
  unfold at1
  rw [pk16_id h1.1 h1.2, h3]
  unfold mT2 adr
  simp only [memOf, h2]
  constructor
  · rw [if_neg (by omega), if_neg (by omega), if_pos (by omega)]
  · rw [if_neg (by omega), if_pos (by omega)]
/-- A run of one instruction. -/
theorem oneT {g : Rg} {m : Mem} {q : Int × Cpu × Mem} (h : instrM 7 0 (ofR g) m = some q) (h0 : 0 ≤ q.1) (h1 : q.1 ≤ 6) : askT g m = true ∧ (rT g m).all = q.1 ∧ (rT g m).c = q.2.1 := by
  obtain ⟨k, c', m'⟩ := q
  obtain ⟨k1, k2⟩ := runsR_of (n := 1) (by omega) (show runM 1 (ofR g) m 0 = some (c', m', _) by rw [run_step h]; simp only [runM]; rfl)
  unfold askT rT
  refine ⟨k1, ?_, ?_⟩
  · have := k2; rw [show ((1 : Nat) : Int) = 1 by rfl] at this; rw [this]
    show IntKind.i64.wrap (0 + k) = k
    have h0 : 0 ≤ k := h0
    have h1 : k ≤ 6 := h1
    rw [wrap_small (by omega) (by omega)]; omega
  · have := k2; rw [show ((1 : Nat) : Int) = 1 by rfl] at this; rw [this]
theorem clk_le (k : Nat) (hk : k < 256) (F : Int) : 0 ≤ clkI k F ∧ clkI k F ≤ 24 := by
  have hb := tab_bounds (k + 0) (by omega)
  have hr : rowI false (k : Int) = infoTab.getD (k + 0) ([], 0, 0, 0, 0) := by unfold rowI; rw [Int.toNat_natCast]; rfl
  unfold clkI cycI takI
  rw [hr]
  cases waitsM k F <;> simp only [cond_true, cond_false] <;> omega
theorem tak_le (k : Nat) (hk : k < 256) : 0 ≤ takI true k ∧ takI true k ≤ 24 := by
  have hb := tab_bounds (k + 256) (by omega)
  have hr : rowI true (k : Int) = infoTab.getD (k + 256) ([], 0, 0, 0, 0) := by unfold rowI; rw [Int.toNat_natCast]; rfl
  unfold takI
  rw [hr]
  omega
/-- Of one that waits. -/
def waitB (k : Nat) : Bool := (condK k).isNone || ((six k).all (! ·) && ct k && (!ge192 k || !mod7 k))
theorem wait_all : ∀ k, k < 256 → waitB k = true := by decide +kernel
theorem timed1 {g : Rg} (hg : GoodX g) (k : Nat) (hk : k < 256) (b1 b2 : Int) (Q : Prop)
    (h203 : c0 g k = [true, false, true] → Q)
    (hlk : lkC g k (mT1 g k b1 b2) = [true, false, false, true, true, true, true] → lkL g (mT1 g k b1 b2) = true → Q)
    (hJ0 : kJ0 g k (mT1 g k b1 b2) = dJ0 → Q) (hJ1 : kJ1 g k (mT1 g k b1 b2) = dJ1 → Q) (hJ2 : kJ2 g k (mT1 g k b1 b2) = dJ2 → Q) (hJ3 : kJ3 g k (mT1 g k b1 b2) = dJ3 → Q) (hJ4 : kJ4 g k (mT1 g k b1 b2) = dJ4 → Q) (hJ5 : kJ5 g k (mT1 g k b1 b2) = dJ5 → Q)
    (hJ6 : kJ6 g k (mT1 g k b1 b2) = dJ6 → Q) (hJ7 : kJ7 g k (mT1 g k b1 b2) = dJ7 → Q) (hJ8 : kJ8 g k (mT1 g k b1 b2) = dJ8 → Q)
    (hP0 : kP0 g k (mT1 g k b1 b2) = dP0 → lfT g k (mT1 g k b1 b2) = true → Q) (hP1 : kP1 g k (mT1 g k b1 b2) = dP1 → lfT g k (mT1 g k b1 b2) = true → Q)
    (hW0 : kW0 g k (mT1 g k b1 b2) = dW0 → lfT g k (mT1 g k b1 b2) = true → Q) (hW1 : kW1 g k (mT1 g k b1 b2) = dW1 → lfT g k (mT1 g k b1 b2) = true → Q) : Q := by
  generalize hm : mT1 g k b1 b2 = m at *
  have hop : m (pk16 g.PC) = k := by rw [← hm]; exact memT1 hg k b1 b2
  clear hm
  by_cases h2 : k = 203
  · refine h203 ?_
    unfold c0; rw [startX hg, h2]; rfl
  have hc0 : c0 g k = [true, false, false] := by
    unfold c0; rw [startX hg]
    have : ((k : Int) == 203) = false := by simp; omega
    rw [this]; rfl
  obtain ⟨q, q1, q2⟩ := op_all k hk h2 g m hg
  have hins : instrM 7 0 (ofR g) m = some q := by rw [first_eq, hop, q1]
  have hpc := hg.inr.hPC
  rcases q2 with ⟨e1, e2, e3⟩ | ⟨e1, e2, e3, e4⟩
  · have hb := clk_le k hk g.F
    obtain ⟨a1, a2, a3⟩ := oneT hins (by omega) (by omega)
    have hn : ∀ c, clkI k g.F = c → cN g c m = [false] := fun c hc => by
      unfold cN
      rw [a2, e2, wrap_small (by omega) (by omega), hc]; simp
    have hA : ∀ w, waitsM k g.F = w → cA g k m = [true, false, false, true, false, w] := fun w hw => by
      unfold cA; rw [hc0, a1, e1, hw]; rfl
    have hL : q.2.1.regs.PC = nxtN (bytI false k).toNat g.PC → lfT g k m = true := fun h => by
      unfold lfT
      rw [a3, h, nxtN_eq _ _ hpc.1 hpc.2, byt_nonneg]; simp
    cases hw : waitsM k g.F with
    | true =>
      have hclk : clkI k g.F = cycI false k := by unfold clkI; rw [hw]; rfl
      have hwb := wait_all k hk
      have hcn : (condK k).isNone = false := by
        cases hcc : condK k with
        | none => unfold waitsM at hw; rw [hcc] at hw; cases hw
        | some c => rfl
      unfold waitB at hwb
      rw [hcn] at hwb
      simp only [Bool.false_or, Bool.and_eq_true, six, List.all_cons, List.all_nil, Bool.not_eq_true', and_true] at hwb
      obtain ⟨⟨⟨s0, s1, s2, s3, s4, s5⟩, hct⟩, hgm⟩ := hwb
      have h6 : six k = [false, false, false, false, false, false] := by unfold six; rw [s0, s1, s2, s3, s4, s5]
      have hpc' := hL (by
        rcases e3 with h | h
        · rw [hw] at h; simp at h
        · exact h)
      have hcw : cW k g = [false] := by unfold cW; rw [hw]; rfl
      cases hg1 : ge192 k with
      | false =>
        refine hW0 ?_ hpc'
        unfold kW0 dW0
        rw [hA _ hw, hn _ hclk, h6, hg1, hct, hcw]; rfl
      | true =>
        rw [hg1] at hgm
        have hm7 : mod7 k = false := by simpa using hgm
        refine hW1 ?_ hpc'
        unfold kW1 dW1
        rw [hA _ hw, hn _ hclk, h6, hg1, hm7, hct, hcw]; rfl
    | false =>
      have hclk : clkI k g.F = takI false k := by unfold clkI; rw [hw]; rfl
      have hcw : cW k g = [true] := by unfold cW; rw [hw]; rfl
      have hA' := hA _ hw
      have hn' := hn _ hclk
      cases s0 : ((k : Int) == 24) with
      | true => refine hJ0 ?_; unfold kJ0 dJ0 six; rw [hA', hn', hcw, s0]; rfl
      | false =>
      cases s1 : ((k : Int) == 195) with
      | true => refine hJ1 ?_; unfold kJ1 dJ1 six; rw [hA', hn', hcw, s0, s1]; rfl
      | false =>
      cases s2 : ((k : Int) == 201) with
      | true => refine hJ2 ?_; unfold kJ2 dJ2 six; rw [hA', hn', hcw, s0, s1, s2]; rfl
      | false =>
      cases s3 : ((k : Int) == 217) with
      | true => refine hJ3 ?_; unfold kJ3 dJ3 six; rw [hA', hn', hcw, s0, s1, s2, s3]; rfl
      | false =>
      cases s4 : ((k : Int) == 233) with
      | true => refine hJ4 ?_; unfold kJ4 dJ4 six; rw [hA', hn', hcw, s0, s1, s2, s3, s4]; rfl
      | false =>
      cases s5 : ((k : Int) == 205) with
      | true => refine hJ5 ?_; unfold kJ5 dJ5 six; rw [hA', hn', hcw, s0, s1, s2, s3, s4, s5]; rfl
      | false =>
      have h6 : six k = [false, false, false, false, false, false] := by unfold six; rw [s0, s1, s2, s3, s4, s5]
      have hjmp : jmpI k = (ge192 k && mod7 k || ct k) := by unfold jmpI ge192 mod7 ct; rw [s0, s1, s2, s3, s4, s5]; simp only [Bool.false_or]
      cases hg1 : ge192 k with
      | false =>
        cases hct : ct k with
        | true => refine hJ7 ?_; unfold kJ7 dJ7; rw [hA', hn', hcw, h6, hg1, hct]; rfl
        | false =>
          refine hP0 ?_ (hL ?_)
          · unfold kP0 dP0; rw [hA', hn', h6, hg1, hct]; rfl
          · rcases e3 with h | h
            · rw [hjmp, hg1, hct] at h; simp at h
            · exact h
      | true =>
        cases hm7 : mod7 k with
        | true => refine hJ6 ?_; unfold kJ6 dJ6; rw [hA', hn', hcw, h6, hg1, hm7]; rfl
        | false =>
          cases hct : ct k with
          | true => refine hJ8 ?_; unfold kJ8 dJ8; rw [hA', hn', hcw, h6, hg1, hm7, hct]; rfl
          | false =>
            refine hP1 ?_ (hL ?_)
            · unfold kP1 dP1; rw [hA', hn', h6, hg1, hm7, hct]; rfl
            · rcases e3 with h | h
              · rw [hjmp, hg1, hm7, hct] at h; simp at h
              · exact h
  · obtain ⟨a1, a2, a3⟩ := oneT hins (by omega) (by omega)
    refine hlk ?_ ?_
    · unfold lkC
      have : (errI false k == 0) = false := by simpa using e1
      rw [hc0, a1, this, a2, e2, a3, e4]; rfl
    · unfold lkL
      rw [a3, e3]; unfold nxt; simp
theorem cpuTimed1 (op : Int) (r : Rg) (b1 b2 : Int) : ∃ v hp', (lawT false r op b1 b2).run = some (.ret v, hp') ∧ ∀ (ρ : Ren) x, VR ρ v x → x = .bool true := by
  have hp := pickV256 op
  have hg := goodX_bnd r
  obtain ⟨k, hk⟩ : ∃ k : Nat, pkK op = k := ⟨(pkK op).toNat, by unfold pkK; omega⟩
  have hk' : k < 256 := by unfold pkK at hk; omega
  have ap : ∀ {β : Type} {f h : Rg → Int → Int → Int → β}, f = h → f r op b1 b2 = h r op b1 b2 := fun e => by rw [e]
  refine timed1 hg k hk' b1 b2 _ (fun h => ?_) (fun h hl => ?_) (fun h => ?_) (fun h => ?_) (fun h => ?_) (fun h => ?_) (fun h => ?_) (fun h => ?_) (fun h => ?_) (fun h => ?_) (fun h => ?_) (fun h hl => ?_) (fun h hl => ?_) (fun h hl => ?_) (fun h hl => ?_) <;> rw [← hk] at h
  · exact lawPath_run (ap lawT_203) h rfl
  · rw [← hk] at hl; exact lawPath_run (ap lawT_lock) h hl
  · exact lawPath_run (ap lawT_J0) h rfl
  · exact lawPath_run (ap lawT_J1) h rfl
  · exact lawPath_run (ap lawT_J2) h rfl
  · exact lawPath_run (ap lawT_J3) h rfl
  · exact lawPath_run (ap lawT_J4) h rfl
  · exact lawPath_run (ap lawT_J5) h rfl
  · exact lawPath_run (ap lawT_J6) h rfl
  · exact lawPath_run (ap lawT_J7) h rfl
  · exact lawPath_run (ap lawT_J8) h rfl
  · rw [← hk] at hl; exact lawPath_run (ap lawT_P0) h hl
  · rw [← hk] at hl; exact lawPath_run (ap lawT_P1) h hl
  · rw [← hk] at hl; exact lawPath_run (ap lawT_W0) h hl
  · rw [← hk] at hl; exact lawPath_run (ap lawT_W1) h hl
theorem cpuTimed2 (op : Int) (r : Rg) (b1 b2 : Int) : ∃ v hp', (lawT true r op b1 b2).run = some (.ret v, hp') ∧ ∀ (ρ : Ren) x, VR ρ v x → x = .bool true := by
  have hp := pickV256 op
  have hg := goodX_bnd r
  obtain ⟨k, hk⟩ : ∃ k : Nat, pkK op = k := ⟨(pkK op).toNat, by unfold pkK; omega⟩
  have hk' : k < 256 := by unfold pkK at hk; omega
  have ap : ∀ {β : Type} {f h : Rg → Int → Int → Int → β}, f = h → f r op b1 b2 = h r op b1 b2 := fun e => by rw [e]
  obtain ⟨m1, m2⟩ := memT2 hg k b2
  generalize hm : mT2 (bndR r) k b2 = m at m1 m2
  obtain ⟨q, q1, q2, q3, q4, q5⟩ := sec_all k hk' (bndR r) m hg
  have hb := tak_le k hk'
  have hins : instrM 7 0 (ofR (bndR r)) m = some q := by
    rw [first_eq, m1]
    have e1 : firstF (bndR r) m 203 = instrM 6 1 (X1 (bndR r) 203) m := by
      have := congrFun (congrFun (congrFun cbA (bndR r).IME) (bndR r)) m
      rw [z_id hg.st] at this; exact this
    have e2 : stepC (X1 (bndR r) 203) m = (tickM (X1 (bndR r) 203) k 0).1 := by
      have := congrFun (congrFun cbB (bndR r)) m
      rw [m2] at this; exact this
    have e3 : stepM (X1 (bndR r) 203) m = m := congrFun (congrFun cbM (bndR r)) m
    rw [e1, inst_step (by rfl), e2, e3]
    exact q1
  obtain ⟨a1, a2, a3⟩ := oneT hins (by omega) (by omega)
  have hS : ∀ b : Bool, ((k : Int) == 203) = b → cS (bndR r) k m = dS b := fun b hb' => by
    unfold cS c0 dS
    rw [startX hg, hb', a1, q2, a2, q3, wrap_small (by omega) (by omega)]; simp
  have hL : lfS (bndR r) k m = true := by
    unfold lfS
    rw [a3, q4, q5]
    have := hg.inr.hPC
    have e : nxt (nxt (bndR r).PC) = ((bndR r).PC + 2) % 65536 := by unfold nxt; omega
    rw [e]; simp
  cases hb' : ((k : Int) == 203) with
  | false => exact lawPath_run (ap lawT_Sfalse) (by rw [hk, hm]; exact hS _ hb') (by rw [hk, hm]; exact hL)
  | true => exact lawPath_run (ap lawT_Strue) (by rw [hk, hm]; exact hS _ hb') (by rw [hk, hm]; exact hL)
theorem cpuTimed_true (op : Int) (b : Bool) (r : Rg) (b1 b2 : Int) : ∃ v hp', (call8 ro0 14 [i64a op, .bool b, regsA r, u8a b1, u8a b2] (startHp 2 1000000)).run = some (.ret v, hp') ∧ ∀ (ρ : Ren) x, VR ρ v x → x = .bool true := by
  cases b
  · exact cpuTimed1 op r b1 b2
  · exact cpuTimed2 op r b1 b2
end Go.Proofs.YtmlfmkebljdoiaaGreatDoor
