/- Own text: CpuWords: what is asked on its way. -/
import Derived.Test.YtmlfmkebljdoiaaGreatDoorCu
import Derived.Test.YtmlfmkebljdoiaaGreatDoorCj
namespace Go.Proofs.YtmlfmkebljdoiaaGreatDoor
open Go.Ev Go.Ev.Tr Go.Proofs
set_option maxRecDepth 1000000
def memOf : List (Int × Int) → Mem
  | [], _ => 0
  | (a, v) :: r, j => if (j : Int) = a then v else memOf r j
/-- What started asks: F, and whether the registers are as they were set. -/
def fOk (g : Rg) : Bool := g.F % 16 == 0
def eqR (g h : Rg) (rest : Bool) : Bool := (g.A == h.A && (g.F == h.F && (g.B == h.B && (g.C == h.C && (g.D == h.D && (g.E == h.E && (g.H == h.H && (g.L == h.L && (g.SP == h.SP && rest)))))))))
theorem eqR_t (g : Rg) : eqR g g true = true := by simp [eqR]
theorem eqR_self (g : Rg) : eqR g g (g.IME == g.IME) = true := by simp [eqR]
theorem bnd_f (r : Rg) : fOk (bndR r) = true := by
  show (pickV r.F (256 : Nat) / 16 * 16 % 16 == 0) = true
  rw [Int.mul_emod_left]; rfl
def g8 (r : Rg) : Rg := { bndR r with PC := 512 }
def gg (g : Rg) : Rg := bndR g
def mem8 (a b : Int) : Mem := memOf [(524, 3), (523, 0), (522, 8), (521, 249), (520, 25), (519, 43), (518, 19), (517, b / 256), (516, b % 256), (515, 17), (514, a / 256), (513, a % 256), (512, 33)]
noncomputable def s8 (r : Rg) (a b : Int) : R20 := runsR (ofR (gg (g8 r))) (mem8 a b) 7
noncomputable def law8 (r : Rg) (nn mm : Int) : T (AEnd × Hp) := call6 ro0 8 [regsA r, i64a nn, i64a mm] (startHp 2 1000000)
noncomputable def conds8 (r : Rg) (a b d h : Int) : List Bool :=
  [fOk (gg (g8 r)), !(eqR (gg (g8 r)) (gg (g8 r)) ((gg (g8 r)).IME == (gg (g8 r)).IME)), (fin20 (s20 (ofR (gg (g8 r))) (mem8 a b) 7)).isSome,
   256 * (s8 r a b).c.regs.D + (s8 r a b).c.regs.E == d,
   256 * (s8 r a b).c.regs.H + (s8 r a b).c.regs.L == (h + d) % 65536,
   (s8 r a b).c.regs.SP == (h + d) % 65536,
   (s8 r a b).m 768 + 256 * (s8 r a b).m 769 == (s8 r a b).c.regs.SP,
   (!(andf (s8 r a b).c.regs.F 16 == 0)) == decide (65535 < h + d),
   andf (s8 r a b).c.regs.F 128 == andf (g8 r).F 128,
   andf (s8 r a b).c.regs.F 64 == 0]
theorem law8_path : (fun r nn mm => lawPath [true, false, true, true, true, true, true, true, true, true] (law8 r nn mm)) =
    (fun r nn mm => some (conds8 r (pickV nn (65536 : Nat)) (pickV mm (65536 : Nat)) ((pickV mm (65536 : Nat) + 1) % 65536) ((pickV nn (65536 : Nat) + 65535) % 65536), some ((!(andf (s8 r (pickV nn (65536 : Nat)) (pickV mm (65536 : Nat))).c.regs.F 32 == 0)) == decide (4095 < (pickV nn (65536 : Nat) + 65535) % 65536 % 4096 + (pickV mm (65536 : Nat) + 1) % 65536 % 4096)))) := by kernel_rfl
theorem bnd_id {g : Rg} (h : InR g) (hf : g.F % 16 = 0) (hs : g.St = 0) : bndR g = g := by
  unfold bndR
  have hF : g.F / 16 * 16 = g.F := by omega
  rw [pickV_id h.hA.1 (by have := h.hA.2; omega), pickV_id h.hF.1 (by have := h.hF.2; omega), pickV_id h.hB.1 (by have := h.hB.2; omega), pickV_id h.hC.1 (by have := h.hC.2; omega), pickV_id h.hD.1 (by have := h.hD.2; omega), pickV_id h.hE.1 (by have := h.hE.2; omega), pickV_id h.hH.1 (by have := h.hH.2; omega), pickV_id h.hL.1 (by have := h.hL.2; omega), pickV_id h.hSP.1 (by have := h.hSP.2; omega), pickV_id h.hPC.1 (by have := h.hPC.2; omega), hF, ← hs]
theorem bnd_f16 (r : Rg) : (bndR r).F % 16 = 0 := by
  show pickV r.F (256 : Nat) / 16 * 16 % 16 = 0
  rw [Int.mul_emod_left]
theorem g8_in (r : Rg) : InR (g8 r) := by
  have h := bnd_in r
  exact ⟨h.hA, h.hF, h.hB, h.hC, h.hD, h.hE, h.hH, h.hL, h.hSP, ⟨by show (0 : Int) ≤ 512; omega, by show (512 : Int) ≤ 65535; omega⟩, h.hSt⟩
theorem gg8 (r : Rg) : gg (g8 r) = g8 r := bnd_id (g8_in r) (bnd_f16 r) rfl
/-- The seven instructions. -/
theorem run8 (r : Rg) (a b : Int) (ha : 0 ≤ a ∧ a ≤ 65535) (hb : 0 ≤ b ∧ b ≤ 65535) : ∃ (g' : Rg) (m' : Mem) (all : Int), runM 7 (ofR (g8 r)) (mem8 a b) 0 = some (ofR g', m', all) ∧
    256 * g'.D + g'.E = (b + 1) % 65536 ∧ 256 * g'.H + g'.L = ((a + 65535) % 65536 + (b + 1) % 65536) % 65536 ∧ g'.SP = ((a + 65535) % 65536 + (b + 1) % 65536) % 65536 ∧ m' 768 + 256 * m' 769 = g'.SP ∧
    g'.F = addW ((a + 65535) % 65536) ((b + 1) % 65536) (g8 r).F 1 := by
  have hin := g8_in r
  generalize hg : g8 r = g at *
  have hpc : g.PC = 512 := by rw [← hg]; rfl
  have hst : g.St = 0 := by rw [← hg]; rfl
  obtain ⟨A, F, B, C, D, E, H, L, SP, PC, IME, St⟩ := g
  simp only at hpc hst
  subst hpc; subst hst
  clear hg
  have hF := hin.hF
  simp only at hF
  obtain ⟨m, hm⟩ : ∃ m, m = mem8 a b := ⟨_, rfl⟩
  obtain ⟨h1, hh⟩ : ∃ h1, h1 = (a + 65535) % 65536 := ⟨_, rfl⟩
  obtain ⟨d1, hd⟩ : ∃ d1, d1 = (b + 1) % 65536 := ⟨_, rfl⟩
  rw [← hm, ← hh, ← hd]
  have w1 : orf (a / 256 * 256) (a % 256) = a := by rw [orf_pair (by omega) (by omega) (by omega)]; omega
  have w2 : orf (b / 256 * 256) (b % 256) = b := by rw [orf_pair (by omega) (by omega) (by omega)]; omega
  have e1 : instrM 7 0 (ofR ⟨A, F, B, C, D, E, H, L, SP, 512, IME, 0⟩) m = some (3, ofR ⟨A, F, B, C, D, E, a / 256, a % 256, SP, 515, IME, 0⟩, m) := by
    refine ins (op := 33) (by rw [hm]; rfl) ((congrFun (congrFun (i33 IME) ⟨A, F, B, C, D, E, H, L, SP, 512, IME, 0⟩) m).trans ?_)
    have : wordAt m 512 = a := by rw [hm]; exact w1
    simp only [this]; rfl
  have e2 : instrM 7 0 (ofR ⟨A, F, B, C, D, E, a / 256, a % 256, SP, 515, IME, 0⟩) m = some (3, ofR ⟨A, F, B, C, b / 256, b % 256, a / 256, a % 256, SP, 518, IME, 0⟩, m) := by
    refine ins (op := 17) (by rw [hm]; rfl) ((congrFun (congrFun (i17 IME) ⟨A, F, B, C, D, E, a / 256, a % 256, SP, 515, IME, 0⟩) m).trans ?_)
    have : wordAt m 515 = b := by rw [hm]; exact w2
    simp only [this]; rfl
  have e3 : instrM 7 0 (ofR ⟨A, F, B, C, b / 256, b % 256, a / 256, a % 256, SP, 518, IME, 0⟩) m = some (2, ofR ⟨A, F, B, C, d1 / 256, d1 % 256, a / 256, a % 256, SP, 519, IME, 0⟩, m) := by
    refine ins (op := 19) (by rw [hm]; rfl) ((congrFun (congrFun (i19 IME) ⟨A, F, B, C, b / 256, b % 256, a / 256, a % 256, SP, 518, IME, 0⟩) m).trans ?_)
    simp only [w2, ← hd]; rfl
  have e4 : instrM 7 0 (ofR ⟨A, F, B, C, d1 / 256, d1 % 256, a / 256, a % 256, SP, 519, IME, 0⟩) m = some (2, ofR ⟨A, F, B, C, d1 / 256, d1 % 256, h1 / 256, h1 % 256, SP, 520, IME, 0⟩, m) := by
    refine ins (op := 43) (by rw [hm]; rfl) ((congrFun (congrFun (i43 IME) ⟨A, F, B, C, d1 / 256, d1 % 256, a / 256, a % 256, SP, 519, IME, 0⟩) m).trans ?_)
    have : (hlM ⟨A, F, B, C, d1 / 256, d1 % 256, a / 256, a % 256, SP, 519, IME, 0⟩ + (-1)) % 65536 = h1 := by
      show (orf (a / 256 * 256) (a % 256) + (-1)) % 65536 = h1
      rw [w1]; omega
    simp only [this]; rfl
  have hd1 : 0 ≤ d1 ∧ d1 ≤ 65535 := by omega
  have hh1 : 0 ≤ h1 ∧ h1 ≤ 65535 := by omega
  have w3 : orf (d1 / 256 * 256) (d1 % 256) = d1 := by rw [orf_pair (by omega) (by omega) (by omega)]; omega
  have w4 : orf (h1 / 256 * 256) (h1 % 256) = h1 := by rw [orf_pair (by omega) (by omega) (by omega)]; omega
  obtain ⟨f1, f2, f3, f4, f5, f6, f7⟩ := addW_eq h1 d1 F hF.1 hF.2
  obtain ⟨s1, hs⟩ : ∃ s1, s1 = (h1 + d1) % 65536 := ⟨_, rfl⟩
  obtain ⟨F1, hF1⟩ : ∃ F1, F1 = addW h1 d1 F 1 := ⟨_, rfl⟩
  rw [← hs]
  have e5 : instrM 7 0 (ofR ⟨A, F, B, C, d1 / 256, d1 % 256, h1 / 256, h1 % 256, SP, 520, IME, 0⟩) m = some (2, ofR ⟨A, F1, B, C, d1 / 256, d1 % 256, s1 / 256, s1 % 256, SP, 521, IME, 0⟩, m) := by
    refine ins (op := 25) (by rw [hm]; rfl) ((congrFun (congrFun (i25 IME) ⟨A, F, B, C, d1 / 256, d1 % 256, h1 / 256, h1 % 256, SP, 520, IME, 0⟩) m).trans ?_)
    have : hlM ⟨A, F, B, C, d1 / 256, d1 % 256, h1 / 256, h1 % 256, SP, 520, IME, 0⟩ = h1 := w4
    simp only [this, w3, f1, ← hs, ← hF1]; rfl
  have hs1 : 0 ≤ s1 ∧ s1 ≤ 65535 := by omega
  have w5 : orf (s1 / 256 * 256) (s1 % 256) = s1 := by rw [orf_pair (by omega) (by omega) (by omega)]; omega
  have e6 : instrM 7 0 (ofR ⟨A, F1, B, C, d1 / 256, d1 % 256, s1 / 256, s1 % 256, SP, 521, IME, 0⟩) m = some (2, ofR ⟨A, F1, B, C, d1 / 256, d1 % 256, s1 / 256, s1 % 256, s1, 522, IME, 0⟩, m) := by
    refine ins (op := 249) (by rw [hm]; rfl) ((congrFun (congrFun (i249 IME) ⟨A, F1, B, C, d1 / 256, d1 % 256, s1 / 256, s1 % 256, SP, 521, IME, 0⟩) m).trans ?_)
    have : hlM ⟨A, F1, B, C, d1 / 256, d1 % 256, s1 / 256, s1 % 256, SP, 521, IME, 0⟩ = s1 := w5
    simp only [this]; rfl
  have e7 : instrM 7 0 (ofR ⟨A, F1, B, C, d1 / 256, d1 % 256, s1 / 256, s1 % 256, s1, 522, IME, 0⟩) m = some (5, ofR ⟨A, F1, B, C, d1 / 256, d1 % 256, s1 / 256, s1 % 256, s1, 525, IME, 0⟩, wrM (wrM m 768 (s1 % 256)) 769 (s1 / 256)) := by
    refine ins (op := 8) (by rw [hm]; rfl) ((congrFun (congrFun (i8 IME) ⟨A, F1, B, C, d1 / 256, d1 % 256, s1 / 256, s1 % 256, s1, 522, IME, 0⟩) m).trans ?_)
    have : wordAt m 522 = 768 := by rw [hm]; exact (show orf (3 * 256) 0 = 768 by decide)
    simp only [this]; rfl
  refine ⟨⟨A, F1, B, C, d1 / 256, d1 % 256, s1 / 256, s1 % 256, s1, 525, IME, 0⟩, wrM (wrM m 768 (s1 % 256)) 769 (s1 / 256), IntKind.i64.wrap (IntKind.i64.wrap (IntKind.i64.wrap (IntKind.i64.wrap (IntKind.i64.wrap (IntKind.i64.wrap (IntKind.i64.wrap (0 + 3) + 3) + 2) + 2) + 2) + 2) + 5), ?_, ?_, ?_, rfl, ?_, hF1⟩
  · rw [run_step e1, run_step e2, run_step e3, run_step e4, run_step e5, run_step e6, run_step e7]; simp only [runM]
  · show 256 * (d1 / 256) + d1 % 256 = d1
    omega
  · show 256 * (s1 / 256) + s1 % 256 = s1
    omega
  · show wrM (wrM m 768 (s1 % 256)) 769 (s1 / 256) 768 + 256 * wrM (wrM m 768 (s1 % 256)) 769 (s1 / 256) 769 = s1
    have p1 : wrM (wrM m 768 (s1 % 256)) 769 (s1 / 256) 768 = s1 % 256 := rfl
    have p2 : wrM (wrM m 768 (s1 % 256)) 769 (s1 / 256) 769 = s1 / 256 := rfl
    rw [p1, p2]; omega
theorem cpuWords_true (r : Rg) (nn mm : Int) : ∃ v hp', (law8 r nn mm).run = some (.ret v, hp') ∧ ∀ (ρ : Ren) x, VR ρ v x → x = .bool true := by
  have ha := pickV64k nn
  have hb := pickV64k mm
  generalize hA : pickV nn (65536 : Nat) = a at *
  generalize hB : pickV mm (65536 : Nat) = b at *
  have hp := congrFun (congrFun (congrFun law8_path r) nn) mm
  simp only [hA, hB] at hp
  obtain ⟨g', m', all, h0, h1, h2, h3, h4, h5⟩ := run8 r a b ha hb
  obtain ⟨k1, k2⟩ := runsR_of (n := 7) (by omega) h0
  have hs : s8 r a b = ⟨ofR g', m', 7, all, 7⟩ := by unfold s8; rw [gg8]; exact k2
  have hask : (fin20 (s20 (ofR (gg (g8 r))) (mem8 a b) 7)).isSome = true := by rw [gg8]; exact k1
  have hF : 0 ≤ (g8 r).F ∧ (g8 r).F ≤ 255 := (g8_in r).hF
  obtain ⟨f1, f2, f3, f4, f5, f6, f7⟩ := addW_eq ((a + 65535) % 65536) ((b + 1) % 65536) (g8 r).F hF.1 hF.2
  refine lawPath_run hp ?_ ?_
  · unfold conds8
    rw [hask, hs, gg8]
    have q1 : (ofR g').regs = g' := rfl
    simp only [q1, h1, h2, h3, h4, h5, f2, f3, f4, Bool.not_true, beq_self_eq_true, BEq.rfl]
    have : fOk (g8 r) = true := bnd_f r
    rw [this, eqR_t]; rfl
  · rw [hs]
    have q1 : (ofR g').regs = g' := rfl
    simp only [q1, h5, f5, beq_self_eq_true, BEq.rfl]
end Go.Proofs.YtmlfmkebljdoiaaGreatDoor
