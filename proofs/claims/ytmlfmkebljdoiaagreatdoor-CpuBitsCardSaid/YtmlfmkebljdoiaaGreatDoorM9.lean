/- Own text: CpuBits: the law. -/
import Derived.Test.YtmlfmkebljdoiaaGreatDoorLb
import Derived.Test.YtmlfmkebljdoiaaGreatDoorBn
namespace Go.Proofs.YtmlfmkebljdoiaaGreatDoor
open Go.Ev Go.Ev.Tr Go.Proofs
set_option maxRecDepth 1000000
theorem picks9_eq {v : Int} {c : Nat} (hv : v = c) : picks9 v c = dpick9 c := by
  unfold picks9 dpick9
  rw [hv]
  refine List.map_congr_left fun j hj => ?_
  have hj := List.mem_range.1 hj
  by_cases e : j = c
  · subst e; simp
  · have : ((c : Int) == (j : Int)) = false := by simp; omega
    rw [this]
    cases hb : Nat.beq j c
    · rfl
    · exact absurd (Nat.eq_of_beq_eq_true hb) e
theorem run9 {g g' : Rg} (hg : GoodX g) {i k q : Int} {n : Nat} {m' : Mem} (h : instrM 7 0 (ofR g) (m9 g i k n) = some (q, ofR g', m')) : ask9 g i k n = true ∧ (q9 g i k n).c.regs = g' ∧ (q9 g i k n).m = m' := by
  obtain ⟨k1, k2⟩ := runsR_of (n := 1) (by omega) (show runM 1 (ofR g) (m9 g i k n) 0 = some (ofR g', m', _) by rw [run_step h]; simp only [runM]; rfl)
  unfold ask9 q9
  rw [hg.id]
  have e : runsR (ofR g) (m9 g i k n) 1 = _ := k2
  exact ⟨k1, by rw [e]; rfl, by rw [e]⟩
theorem start9_eq {g : Rg} (hg : GoodX g) (n : Nat) : start9 (bndR g) n = [true, false] := by
  rw [hg.id]
  have h1 : fOk g = true := by unfold fOk; rw [hg.f16]; rfl
  have h2 : eqRb g g = true := by simp [eqRb]
  have h3 : eqRc9 g g = true := by simp [eqRc9]
  unfold start9
  split
  · rw [h1, h3]; rfl
  · rw [h1, h2]; rfl
theorem getR_in {g : Rg} (h : InR g) (n : Nat) : 0 ≤ getR g n ∧ getR g n ≤ 255 := by
  unfold getR
  split
  · exact h.hB
  · exact h.hC
  · exact h.hD
  · exact h.hE
  · exact h.hH
  · exact h.hL
  · exact h.hA
theorem getR_setR (g : Rg) (v : Int) {n : Nat} (hn : n ≤ 7) (h6 : n ≠ 6) : getR (setR g n v) n = v := by
  have hd : n = 0 ∨ n = 1 ∨ n = 2 ∨ n = 3 ∨ n = 4 ∨ n = 5 ∨ n = 7 := by omega
  rcases hd with rfl | rfl | rfl | rfl | rfl | rfl | rfl <;> rfl
theorem setR_F (g : Rg) (v : Int) (n : Nat) : (setR g n v).F = g.F := by
  unfold setR
  split <;> rfl
theorem getR_z (b : Bool) (g : Rg) (n : Nat) : getR (z b g) n = getR g n := by
  unfold getR
  split <;> rfl
theorem getR_pc (g : Rg) (f p : Int) (n : Nat) : getR { g with F := f, PC := p } n = getR g n := by
  unfold getR
  split <;> rfl
theorem fl9_eq (g : Rg) (h : Bool) : f9 g h = fl9 g.F h := by cases h <;> rfl
section
variable {g : Rg} (hg : GoodX g) (hpc : g.PC = 512) {k n : Nat} (hk : k ≤ 7)
include hg hpc hk
theorem ne9 (hn : n ≤ 7) (h6 : n ≠ 6) {which : Int} (hw : pickV which (8 : Nat) = n) : conds9 g which k n (bitQ g k n) = dirs9 n (bitQ g k n) := by
  have hm : ∀ i, m9 g i k n = memOf [(513, 64 * i + 8 * k + n), (512, 203)] := fun i => by
    unfold m9
    split
    · exact absurd rfl h6
    · rfl
  have hv : v9 g n = getR g n := by
    unfold v9
    split
    · exact absurd rfl h6
    · rfl
  have hww : ∀ i, w9 g i k n = getR (q9 g i k n).c.regs n := fun i => by
    unfold w9
    split
    · exact absurd rfl h6
    · rfl
  have hop : ∀ i, m9 g i k n (pk16 g.PC) = 203 := fun i => by rw [hm, hpc]; rfl
  have hsub : ∀ i, at1 (m9 g i k n) g = 64 * i + 8 * k + n := fun i => by unfold at1; rw [hm, hpc]; rfl
  have hin := getR_in hg.inr n
  obtain ⟨a1, a2, a3⟩ := run9 hg (cb_step hg.st (hop 1) (hsub 1) (cbU1 g.IME g hk hn h6))
  obtain ⟨b1, b2, b3⟩ := run9 hg (cb_step hg.st (hop 2) (hsub 2) (cbU2 g.IME g hk hn h6))
  obtain ⟨c1, c2, c3⟩ := run9 hg (cb_step hg.st (hop 3) (hsub 3) (cbU3 g.IME g hk hn h6))
  have w1 : w9 g 1 k n = v9 g n := by rw [hww, a2, hv, getR_z, getR_pc]
  have w2 : w9 g 2 k n = res9 (v9 g n) k := by
    rw [hww, b2, hv, getR_z, getR_setR _ _ hn h6, resV_eq hk]
    exact (resL hk hin.1 hin.2).symm
  have w3 : w9 g 3 k n = set9 (v9 g n) k := by
    rw [hww, c2, hv, getR_z, getR_setR _ _ hn h6, setV_eq hk]
    exact (setL hk hin.1 hin.2).symm
  have f1 : (q9 g 1 k n).c.regs.F = f9 g (bitQ g k n) := by
    rw [a2, fl9_eq]
    simp only [z]
    rw [bitFv_fl hk hin.1 hin.2 hg.inr.hF.1 hg.inr.hF.2]
    unfold bitQ
    rw [hv]
  have f2 : (q9 g 2 k n).c.regs.F = g.F := by rw [b2]; simp only [z]; rw [setR_F]
  have f3 : (q9 g 3 k n).c.regs.F = g.F := by rw [c2]; simp only [z]; rw [setR_F]
  unfold conds9 dirs9
  rw [picks9_eq hw, start9_eq hg, a1, b1, c1, w1, w2, w3, f1, f2, f3]
  simp only [BEq.rfl, Bool.not_true]
  rfl
theorem six9 (hH : g.H = 194) {which : Int} (hw : pickV which (8 : Nat) = (6 : Nat)) : conds9 g which k 6 (bitQ g k 6) = dirs9 6 (bitQ g k 6) := by
  have hL := hg.inr.hL
  have ha : ad9 g + 0 = 49664 + g.L := by unfold ad9; rw [hH, pickV_id (by omega) (by omega)]; omega
  have hh : pk16 (hlM g) = (49664 + g.L).toNat := by rw [hl_eq hg.inr, hH, pk16_id (by omega) (by omega)]; congr 1
  have hx : (256 * g.H + g.L).toNat = (49664 + g.L).toNat := by rw [hH]; congr 1
  have hop : ∀ i, m9 g i k 6 (pk16 g.PC) = 203 := fun i => by
    rw [hpc, show pk16 512 = 512 by decide]
    simp only [m9, memOf, ha]
    rw [if_neg (by omega), if_neg (by omega), if_pos (by omega)]
  have hsub : ∀ i, at1 (m9 g i k 6) g = 64 * i + 8 * k + 6 := fun i => by
    unfold at1
    rw [hpc, show pk16 (nxt 512) = 513 by decide]
    simp only [m9, memOf, ha]
    rw [if_neg (by omega), if_pos (by omega)]
  have hval : ∀ i, m9 g i k 6 (49664 + g.L).toNat = 173 := fun i => by
    simp only [m9, memOf, ha]
    rw [if_pos (by omega)]
  have e1 := chU1 g.IME g (m9 g 1 k 6) hk
  have e2 := chU2 g.IME g (m9 g 2 k 6) hk
  have e3 := chU3 g.IME g (m9 g 3 k 6) hk
  rw [hh, hval] at e1 e2 e3
  obtain ⟨a1, a2, a3⟩ := run9 hg (ch_step hg.st (hop 1) (hsub 1) (midU1 g.IME g hk) e1)
  obtain ⟨b1, b2, b3⟩ := run9 hg (ch_step hg.st (hop 2) (hsub 2) (midU2 g.IME g hk) e2)
  obtain ⟨c1, c2, c3⟩ := run9 hg (ch_step hg.st (hop 3) (hsub 3) (midU3 g.IME g hk) e3)
  have w1 : w9 g 1 k 6 = v9 g 6 := by
    show (q9 g 1 k 6).m (256 * g.H + g.L).toNat = 173
    rw [a3, hx]; exact hval 1
  have w2 : w9 g 2 k 6 = res9 (v9 g 6) k := by
    show (q9 g 2 k 6).m (256 * g.H + g.L).toNat = _
    rw [b3, hx]
    unfold wrM
    rw [if_pos hh.symm, resV_eq hk]
    exact (resL hk (v := 173) (by omega) (by omega)).symm
  have w3 : w9 g 3 k 6 = set9 (v9 g 6) k := by
    show (q9 g 3 k 6).m (256 * g.H + g.L).toNat = _
    rw [c3, hx]
    unfold wrM
    rw [if_pos hh.symm, setV_eq hk]
    exact (setL hk (v := 173) (by omega) (by omega)).symm
  have f1 : (q9 g 1 k 6).c.regs.F = f9 g (bitQ g k 6) := by
    rw [a2, fl9_eq]
    simp only [z]
    rw [bitFv_fl hk (by omega) (by omega) hg.inr.hF.1 hg.inr.hF.2]
    rfl
  have f2 : (q9 g 2 k 6).c.regs.F = g.F := by rw [b2]; simp only [z]
  have f3 : (q9 g 3 k 6).c.regs.F = g.F := by rw [c2]; simp only [z]
  unfold conds9 dirs9
  rw [picks9_eq hw, start9_eq hg, a1, b1, c1, w1, w2, w3, f1, f2, f3]
  simp only [BEq.rfl, Bool.not_true]
  rfl
end
theorem good9 (r : Rg) (n : Nat) : GoodX (g9 r n) ∧ (g9 r n).PC = 512 := by
  have h := bnd_in r
  unfold g9
  split
  · exact ⟨⟨⟨h.hA, h.hF, h.hB, h.hC, h.hD, h.hE, ⟨by show (0 : Int) ≤ 194; omega, by show (194 : Int) ≤ 255; omega⟩, h.hL, h.hSP, ⟨by show (0 : Int) ≤ 512; omega, by show (512 : Int) ≤ 65535; omega⟩, h.hSt⟩, bnd_f16 r, rfl⟩, rfl⟩
  · exact ⟨⟨⟨h.hA, h.hF, h.hB, h.hC, h.hD, h.hE, h.hH, h.hL, h.hSP, ⟨by show (0 : Int) ≤ 512; omega, by show (512 : Int) ≤ 65535; omega⟩, h.hSt⟩, bnd_f16 r, rfl⟩, rfl⟩
theorem cpuBits_true (r : Rg) (bit which : Int) : ∃ v hp', (law9 r bit which).run = some (.ret v, hp') ∧ ∀ (ρ : Ren) x, VR ρ v x → x = .bool true := by
  have hp := pickV_in (c := bit) (n := ((8 : Nat) : Int)) (by decide)
  have hp2 := pickV_in (c := which) (n := ((8 : Nat) : Int)) (by decide)
  obtain ⟨k, hk⟩ : ∃ k : Nat, k9 bit = k := ⟨(k9 bit).toNat, by unfold k9; omega⟩
  have hk7 : k ≤ 7 := by unfold k9 at hk; omega
  obtain ⟨n, hn⟩ : ∃ n : Nat, pickV which (8 : Nat) = n := ⟨(pickV which (8 : Nat)).toNat, by omega⟩
  have hn7 : n ≤ 7 := by omega
  obtain ⟨hg, hpc⟩ := good9 r n
  have hc : conds9 (g9 r n) which (k9 bit) n (bitQ (g9 r n) (k9 bit) n) = dirs9 n (bitQ (g9 r n) (k9 bit) n) := by
    rw [hk]
    by_cases h6 : n = 6
    · subst h6; exact six9 hg hpc hk7 rfl hn
    · exact ne9 hg hpc hk7 hn7 h6 hn
  cases hb : bitQ (g9 r n) (k9 bit) n
  all_goals
    rw [hb] at hc
    have hcc : n = 0 ∨ n = 1 ∨ n = 2 ∨ n = 3 ∨ n = 4 ∨ n = 5 ∨ n = 6 ∨ n = 7 := by omega
    rcases hcc with rfl | rfl | rfl | rfl | rfl | rfl | rfl | rfl
  · exact lawPath_run (congrFun (congrFun (congrFun l9_0f r) bit) which) hc rfl
  · exact lawPath_run (congrFun (congrFun (congrFun l9_1f r) bit) which) hc rfl
  · exact lawPath_run (congrFun (congrFun (congrFun l9_2f r) bit) which) hc rfl
  · exact lawPath_run (congrFun (congrFun (congrFun l9_3f r) bit) which) hc rfl
  · exact lawPath_run (congrFun (congrFun (congrFun l9_4f r) bit) which) hc rfl
  · exact lawPath_run (congrFun (congrFun (congrFun l9_5f r) bit) which) hc rfl
  · exact lawPath_run (congrFun (congrFun (congrFun l9_6f r) bit) which) hc rfl
  · exact lawPath_run (congrFun (congrFun (congrFun l9_7f r) bit) which) hc rfl
  · exact lawPath_run (congrFun (congrFun (congrFun l9_0t r) bit) which) hc rfl
  · exact lawPath_run (congrFun (congrFun (congrFun l9_1t r) bit) which) hc rfl
  · exact lawPath_run (congrFun (congrFun (congrFun l9_2t r) bit) which) hc rfl
  · exact lawPath_run (congrFun (congrFun (congrFun l9_3t r) bit) which) hc rfl
  · exact lawPath_run (congrFun (congrFun (congrFun l9_4t r) bit) which) hc rfl
  · exact lawPath_run (congrFun (congrFun (congrFun l9_5t r) bit) which) hc rfl
  · exact lawPath_run (congrFun (congrFun (congrFun l9_6t r) bit) which) hc rfl
  · exact lawPath_run (congrFun (congrFun (congrFun l9_7t r) bit) which) hc rfl
end Go.Proofs.YtmlfmkebljdoiaaGreatDoor
