/- Own text, written by a program of mine: CpuTimed: what the opcodes do, all together. -/
import Derived.Test.YtmlfmkebljdoiaaGreatDoorTa0
import Derived.Test.YtmlfmkebljdoiaaGreatDoorTa1
namespace Go.Proofs.YtmlfmkebljdoiaaGreatDoor
open Go.Ev Go.Ev.Tr Go.Proofs
set_option maxRecDepth 1000000
def OpOK (k : Nat) : Prop := ∀ (g : Rg) (m : Mem), GoodX g → ∃ q, firstF g m k = some q ∧
  ((errI false k = 0 ∧ 4 * q.1 = clkI k g.F ∧ ((jmpI k && !waitsM k g.F) = true ∨ q.2.1.regs.PC = nxtN (bytI false k).toNat g.PC)) ∨ (errI false k ≠ 0 ∧ q.1 = 1 ∧ q.2.1.regs.PC = nxt g.PC ∧ q.2.1.regs.St = 3))
def freeB (k : Nat) : Bool := (condK k).isNone && errI false k == 0 && clkI k 0 % 4 == 0
theorem free_ok {k : Nat} (h : FreeT k) (hb : freeB k = true) : OpOK k := by
  intro g m hg
  simp only [freeB, Bool.and_eq_true, Option.isNone_iff_eq_none, beq_iff_eq] at hb
  obtain ⟨⟨h1, h2⟩, h3⟩ := hb
  have hw : ∀ F, waitsM k F = false := fun F => by unfold waitsM; rw [h1]
  have e : (firstF (z g.IME g) m k).map (vwc (jmpI k)) = some (clkI k 0 / 4, bif jmpI k then none else some (nxtN (bytI false k).toNat g.PC)) := congrFun (congrFun (h g.IME) g) m
  rw [z_id hg.st] at e
  obtain ⟨q, q1, q2⟩ := Option.map_eq_some_iff.1 e
  simp only [vwc, Prod.mk.injEq] at q2
  obtain ⟨c1, c2⟩ := q2
  refine ⟨q, q1, .inl ⟨h2, ?_, ?_⟩⟩
  · have : clkI k g.F = clkI k 0 := by unfold clkI; rw [hw, hw]
    rw [this, c1]; omega
  · cases hj : jmpI k with
    | true => exact .inl (by rw [hw]; rfl)
    | false => rw [hj] at c2; exact .inr (by simpa using c2)
def condB (k : Nat) : Bool := jmpI k && errI false k == 0 && js.all fun j => clkI k j % 4 == 0
theorem cond_ok {k : Nat} (h : CondT k) (hb : condB k = true) : OpOK k := by
  intro g m hg
  simp only [condB, Bool.and_eq_true, beq_iff_eq, List.all_eq_true] at hb
  obtain ⟨⟨h1, h2⟩, h3⟩ := hb
  have hj : g.F ∈ js := by
    have h4 := hg.inr.hF
    have h5 := hg.f16
    simp only [js, List.mem_cons, List.not_mem_nil, or_false]
    omega
  have e := congrFun (congrFun (h g.IME) g) m
  have e := List.map_inj_left.1 e g.F hj
  have e : (firstF (z g.IME g) m k).map (vwc (!waitsM k g.F)) = some (clkI k g.F / 4, bif !waitsM k g.F then none else some (nxtN (bytI false k).toNat g.PC)) := e
  rw [z_id hg.st] at e
  obtain ⟨q, q1, q2⟩ := Option.map_eq_some_iff.1 e
  simp only [vwc, Prod.mk.injEq] at q2
  obtain ⟨c1, c2⟩ := q2
  have h6 := h3 g.F hj
  refine ⟨q, q1, .inl ⟨h2, ?_, ?_⟩⟩
  · rw [c1]; omega
  · cases hw : waitsM k g.F with
    | false => exact .inl (by rw [h1]; rfl)
    | true => rw [hw] at c2; exact .inr (by simpa using c2)
theorem lock_ok {k : Nat} (h : LockT k) (hb : (errI false k == 0) = false) : OpOK k := by
  intro g m hg
  have e : (firstF (z g.IME g) m k).map vwl = some (1, nxt g.PC, 3) := congrFun (congrFun (h g.IME) g) m
  rw [z_id hg.st] at e
  obtain ⟨q, q1, q2⟩ := Option.map_eq_some_iff.1 e
  simp only [vwl, Prod.mk.injEq] at q2
  obtain ⟨c1, c2, c3⟩ := q2
  exact ⟨q, q1, .inr ⟨by simpa using hb, c1, c2, c3⟩⟩
/-- The second table. -/
def SecOK (k : Nat) : Prop := ∀ (g : Rg) (m : Mem), GoodX g → ∃ q, cbF g m k = some q ∧ errI true k = 0 ∧ 4 * q.1 = takI true k ∧ q.2.1.regs.PC = nxt (nxt g.PC) ∧ bytI true k = 2
def secB (k : Nat) : Bool := errI true k == 0 && takI true k % 4 == 0 && bytI true k == 2
theorem sec_ok {k : Nat} (h : SecT k) (hb : secB k = true) : SecOK k := by
  intro g m hg
  simp only [secB, Bool.and_eq_true, beq_iff_eq] at hb
  obtain ⟨⟨h1, h2⟩, h3⟩ := hb
  have e : (cbF (z g.IME g) m k).map (vwc false) = some (takI true k / 4, some (nxt (nxt g.PC))) := congrFun (congrFun (h g.IME) g) m
  rw [z_id hg.st] at e
  obtain ⟨q, q1, q2⟩ := Option.map_eq_some_iff.1 e
  simp only [vwc, cond_false, Prod.mk.injEq, Option.some.injEq] at q2
  obtain ⟨c1, c2⟩ := q2
  exact ⟨q, q1, h1, by rw [c1]; omega, c2, h3⟩
theorem og0 (j : Nat) (hj : j < 16) (hne : 16 * 0 + j ≠ 203) : OpOK (16 * 0 + j) := by
  have hc : j = 0 ∨ j = 1 ∨ j = 2 ∨ j = 3 ∨ j = 4 ∨ j = 5 ∨ j = 6 ∨ j = 7 ∨ j = 8 ∨ j = 9 ∨ j = 10 ∨ j = 11 ∨ j = 12 ∨ j = 13 ∨ j = 14 ∨ j = 15 := by omega
  rcases hc with rfl | rfl | rfl | rfl | rfl | rfl | rfl | rfl | rfl | rfl | rfl | rfl | rfl | rfl | rfl | rfl
  · exact free_ok ot0 (by kernel_rfl)
  · exact free_ok ot1 (by kernel_rfl)
  · exact free_ok ot2 (by kernel_rfl)
  · exact free_ok ot3 (by kernel_rfl)
  · exact free_ok ot4 (by kernel_rfl)
  · exact free_ok ot5 (by kernel_rfl)
  · exact free_ok ot6 (by kernel_rfl)
  · exact free_ok ot7 (by kernel_rfl)
  · exact free_ok ot8 (by kernel_rfl)
  · exact free_ok ot9 (by kernel_rfl)
  · exact free_ok ot10 (by kernel_rfl)
  · exact free_ok ot11 (by kernel_rfl)
  · exact free_ok ot12 (by kernel_rfl)
  · exact free_ok ot13 (by kernel_rfl)
  · exact free_ok ot14 (by kernel_rfl)
  · exact free_ok ot15 (by kernel_rfl)
theorem sg0 (j : Nat) (hj : j < 16) : SecOK (16 * 0 + j) := by
  have hc : j = 0 ∨ j = 1 ∨ j = 2 ∨ j = 3 ∨ j = 4 ∨ j = 5 ∨ j = 6 ∨ j = 7 ∨ j = 8 ∨ j = 9 ∨ j = 10 ∨ j = 11 ∨ j = 12 ∨ j = 13 ∨ j = 14 ∨ j = 15 := by omega
  rcases hc with rfl | rfl | rfl | rfl | rfl | rfl | rfl | rfl | rfl | rfl | rfl | rfl | rfl | rfl | rfl | rfl
  · exact sec_ok se0 (by kernel_rfl)
  · exact sec_ok se1 (by kernel_rfl)
  · exact sec_ok se2 (by kernel_rfl)
  · exact sec_ok se3 (by kernel_rfl)
  · exact sec_ok se4 (by kernel_rfl)
  · exact sec_ok se5 (by kernel_rfl)
  · exact sec_ok se6 (by kernel_rfl)
  · exact sec_ok se7 (by kernel_rfl)
  · exact sec_ok se8 (by kernel_rfl)
  · exact sec_ok se9 (by kernel_rfl)
  · exact sec_ok se10 (by kernel_rfl)
  · exact sec_ok se11 (by kernel_rfl)
  · exact sec_ok se12 (by kernel_rfl)
  · exact sec_ok se13 (by kernel_rfl)
  · exact sec_ok se14 (by kernel_rfl)
  · exact sec_ok se15 (by kernel_rfl)
theorem og1 (j : Nat) (hj : j < 16) (hne : 16 * 1 + j ≠ 203) : OpOK (16 * 1 + j) := by
  have hc : j = 0 ∨ j = 1 ∨ j = 2 ∨ j = 3 ∨ j = 4 ∨ j = 5 ∨ j = 6 ∨ j = 7 ∨ j = 8 ∨ j = 9 ∨ j = 10 ∨ j = 11 ∨ j = 12 ∨ j = 13 ∨ j = 14 ∨ j = 15 := by omega
  rcases hc with rfl | rfl | rfl | rfl | rfl | rfl | rfl | rfl | rfl | rfl | rfl | rfl | rfl | rfl | rfl | rfl
  · exact free_ok ot16 (by kernel_rfl)
  · exact free_ok ot17 (by kernel_rfl)
  · exact free_ok ot18 (by kernel_rfl)
  · exact free_ok ot19 (by kernel_rfl)
  · exact free_ok ot20 (by kernel_rfl)
  · exact free_ok ot21 (by kernel_rfl)
  · exact free_ok ot22 (by kernel_rfl)
  · exact free_ok ot23 (by kernel_rfl)
  · exact free_ok ot24 (by kernel_rfl)
  · exact free_ok ot25 (by kernel_rfl)
  · exact free_ok ot26 (by kernel_rfl)
  · exact free_ok ot27 (by kernel_rfl)
  · exact free_ok ot28 (by kernel_rfl)
  · exact free_ok ot29 (by kernel_rfl)
  · exact free_ok ot30 (by kernel_rfl)
  · exact free_ok ot31 (by kernel_rfl)
theorem sg1 (j : Nat) (hj : j < 16) : SecOK (16 * 1 + j) := by
  have hc : j = 0 ∨ j = 1 ∨ j = 2 ∨ j = 3 ∨ j = 4 ∨ j = 5 ∨ j = 6 ∨ j = 7 ∨ j = 8 ∨ j = 9 ∨ j = 10 ∨ j = 11 ∨ j = 12 ∨ j = 13 ∨ j = 14 ∨ j = 15 := by omega
  rcases hc with rfl | rfl | rfl | rfl | rfl | rfl | rfl | rfl | rfl | rfl | rfl | rfl | rfl | rfl | rfl | rfl
  · exact sec_ok se16 (by kernel_rfl)
  · exact sec_ok se17 (by kernel_rfl)
  · exact sec_ok se18 (by kernel_rfl)
  · exact sec_ok se19 (by kernel_rfl)
  · exact sec_ok se20 (by kernel_rfl)
  · exact sec_ok se21 (by kernel_rfl)
  · exact sec_ok se22 (by kernel_rfl)
  · exact sec_ok se23 (by kernel_rfl)
  · exact sec_ok se24 (by kernel_rfl)
  · exact sec_ok se25 (by kernel_rfl)
  · exact sec_ok se26 (by kernel_rfl)
  · exact sec_ok se27 (by kernel_rfl)
  · exact sec_ok se28 (by kernel_rfl)
  · exact sec_ok se29 (by kernel_rfl)
  · exact sec_ok se30 (by kernel_rfl)
  · exact sec_ok se31 (by kernel_rfl)
theorem og2 (j : Nat) (hj : j < 16) (hne : 16 * 2 + j ≠ 203) : OpOK (16 * 2 + j) := by
  have hc : j = 0 ∨ j = 1 ∨ j = 2 ∨ j = 3 ∨ j = 4 ∨ j = 5 ∨ j = 6 ∨ j = 7 ∨ j = 8 ∨ j = 9 ∨ j = 10 ∨ j = 11 ∨ j = 12 ∨ j = 13 ∨ j = 14 ∨ j = 15 := by omega
  rcases hc with rfl | rfl | rfl | rfl | rfl | rfl | rfl | rfl | rfl | rfl | rfl | rfl | rfl | rfl | rfl | rfl
  · exact cond_ok ot32 (by kernel_rfl)
  · exact free_ok ot33 (by kernel_rfl)
  · exact free_ok ot34 (by kernel_rfl)
  · exact free_ok ot35 (by kernel_rfl)
  · exact free_ok ot36 (by kernel_rfl)
  · exact free_ok ot37 (by kernel_rfl)
  · exact free_ok ot38 (by kernel_rfl)
  · exact free_ok ot39 (by kernel_rfl)
  · exact cond_ok ot40 (by kernel_rfl)
  · exact free_ok ot41 (by kernel_rfl)
  · exact free_ok ot42 (by kernel_rfl)
  · exact free_ok ot43 (by kernel_rfl)
  · exact free_ok ot44 (by kernel_rfl)
  · exact free_ok ot45 (by kernel_rfl)
  · exact free_ok ot46 (by kernel_rfl)
  · exact free_ok ot47 (by kernel_rfl)
theorem sg2 (j : Nat) (hj : j < 16) : SecOK (16 * 2 + j) := by
  have hc : j = 0 ∨ j = 1 ∨ j = 2 ∨ j = 3 ∨ j = 4 ∨ j = 5 ∨ j = 6 ∨ j = 7 ∨ j = 8 ∨ j = 9 ∨ j = 10 ∨ j = 11 ∨ j = 12 ∨ j = 13 ∨ j = 14 ∨ j = 15 := by omega
  rcases hc with rfl | rfl | rfl | rfl | rfl | rfl | rfl | rfl | rfl | rfl | rfl | rfl | rfl | rfl | rfl | rfl
  · exact sec_ok se32 (by kernel_rfl)
  · exact sec_ok se33 (by kernel_rfl)
  · exact sec_ok se34 (by kernel_rfl)
  · exact sec_ok se35 (by kernel_rfl)
  · exact sec_ok se36 (by kernel_rfl)
  · exact sec_ok se37 (by kernel_rfl)
  · exact sec_ok se38 (by kernel_rfl)
  · exact sec_ok se39 (by kernel_rfl)
  · exact sec_ok se40 (by kernel_rfl)
  · exact sec_ok se41 (by kernel_rfl)
  · exact sec_ok se42 (by kernel_rfl)
  · exact sec_ok se43 (by kernel_rfl)
  · exact sec_ok se44 (by kernel_rfl)
  · exact sec_ok se45 (by kernel_rfl)
  · exact sec_ok se46 (by kernel_rfl)
  · exact sec_ok se47 (by kernel_rfl)
theorem og3 (j : Nat) (hj : j < 16) (hne : 16 * 3 + j ≠ 203) : OpOK (16 * 3 + j) := by
  have hc : j = 0 ∨ j = 1 ∨ j = 2 ∨ j = 3 ∨ j = 4 ∨ j = 5 ∨ j = 6 ∨ j = 7 ∨ j = 8 ∨ j = 9 ∨ j = 10 ∨ j = 11 ∨ j = 12 ∨ j = 13 ∨ j = 14 ∨ j = 15 := by omega
  rcases hc with rfl | rfl | rfl | rfl | rfl | rfl | rfl | rfl | rfl | rfl | rfl | rfl | rfl | rfl | rfl | rfl
  · exact cond_ok ot48 (by kernel_rfl)
  · exact free_ok ot49 (by kernel_rfl)
  · exact free_ok ot50 (by kernel_rfl)
  · exact free_ok ot51 (by kernel_rfl)
  · exact free_ok ot52 (by kernel_rfl)
  · exact free_ok ot53 (by kernel_rfl)
  · exact free_ok ot54 (by kernel_rfl)
  · exact free_ok ot55 (by kernel_rfl)
  · exact cond_ok ot56 (by kernel_rfl)
  · exact free_ok ot57 (by kernel_rfl)
  · exact free_ok ot58 (by kernel_rfl)
  · exact free_ok ot59 (by kernel_rfl)
  · exact free_ok ot60 (by kernel_rfl)
  · exact free_ok ot61 (by kernel_rfl)
  · exact free_ok ot62 (by kernel_rfl)
  · exact free_ok ot63 (by kernel_rfl)
theorem sg3 (j : Nat) (hj : j < 16) : SecOK (16 * 3 + j) := by
  have hc : j = 0 ∨ j = 1 ∨ j = 2 ∨ j = 3 ∨ j = 4 ∨ j = 5 ∨ j = 6 ∨ j = 7 ∨ j = 8 ∨ j = 9 ∨ j = 10 ∨ j = 11 ∨ j = 12 ∨ j = 13 ∨ j = 14 ∨ j = 15 := by omega
  rcases hc with rfl | rfl | rfl | rfl | rfl | rfl | rfl | rfl | rfl | rfl | rfl | rfl | rfl | rfl | rfl | rfl
  · exact sec_ok se48 (by kernel_rfl)
  · exact sec_ok se49 (by kernel_rfl)
  · exact sec_ok se50 (by kernel_rfl)
  · exact sec_ok se51 (by kernel_rfl)
  · exact sec_ok se52 (by kernel_rfl)
  · exact sec_ok se53 (by kernel_rfl)
  · exact sec_ok se54 (by kernel_rfl)
  · exact sec_ok se55 (by kernel_rfl)
  · exact sec_ok se56 (by kernel_rfl)
  · exact sec_ok se57 (by kernel_rfl)
  · exact sec_ok se58 (by kernel_rfl)
  · exact sec_ok se59 (by kernel_rfl)
  · exact sec_ok se60 (by kernel_rfl)
  · exact sec_ok se61 (by kernel_rfl)
  · exact sec_ok se62 (by kernel_rfl)
  · exact sec_ok se63 (by kernel_rfl)
theorem og4 (j : Nat) (hj : j < 16) (hne : 16 * 4 + j ≠ 203) : OpOK (16 * 4 + j) := by
  have hc : j = 0 ∨ j = 1 ∨ j = 2 ∨ j = 3 ∨ j = 4 ∨ j = 5 ∨ j = 6 ∨ j = 7 ∨ j = 8 ∨ j = 9 ∨ j = 10 ∨ j = 11 ∨ j = 12 ∨ j = 13 ∨ j = 14 ∨ j = 15 := by omega
  rcases hc with rfl | rfl | rfl | rfl | rfl | rfl | rfl | rfl | rfl | rfl | rfl | rfl | rfl | rfl | rfl | rfl
  · exact free_ok ot64 (by kernel_rfl)
  · exact free_ok ot65 (by kernel_rfl)
  · exact free_ok ot66 (by kernel_rfl)
  · exact free_ok ot67 (by kernel_rfl)
  · exact free_ok ot68 (by kernel_rfl)
  · exact free_ok ot69 (by kernel_rfl)
  · exact free_ok ot70 (by kernel_rfl)
  · exact free_ok ot71 (by kernel_rfl)
  · exact free_ok ot72 (by kernel_rfl)
  · exact free_ok ot73 (by kernel_rfl)
  · exact free_ok ot74 (by kernel_rfl)
  · exact free_ok ot75 (by kernel_rfl)
  · exact free_ok ot76 (by kernel_rfl)
  · exact free_ok ot77 (by kernel_rfl)
  · exact free_ok ot78 (by kernel_rfl)
  · exact free_ok ot79 (by kernel_rfl)
theorem sg4 (j : Nat) (hj : j < 16) : SecOK (16 * 4 + j) := by
  have hc : j = 0 ∨ j = 1 ∨ j = 2 ∨ j = 3 ∨ j = 4 ∨ j = 5 ∨ j = 6 ∨ j = 7 ∨ j = 8 ∨ j = 9 ∨ j = 10 ∨ j = 11 ∨ j = 12 ∨ j = 13 ∨ j = 14 ∨ j = 15 := by omega
  rcases hc with rfl | rfl | rfl | rfl | rfl | rfl | rfl | rfl | rfl | rfl | rfl | rfl | rfl | rfl | rfl | rfl
  · exact sec_ok se64 (by kernel_rfl)
  · exact sec_ok se65 (by kernel_rfl)
  · exact sec_ok se66 (by kernel_rfl)
  · exact sec_ok se67 (by kernel_rfl)
  · exact sec_ok se68 (by kernel_rfl)
  · exact sec_ok se69 (by kernel_rfl)
  · exact sec_ok se70 (by kernel_rfl)
  · exact sec_ok se71 (by kernel_rfl)
  · exact sec_ok se72 (by kernel_rfl)
  · exact sec_ok se73 (by kernel_rfl)
  · exact sec_ok se74 (by kernel_rfl)
  · exact sec_ok se75 (by kernel_rfl)
  · exact sec_ok se76 (by kernel_rfl)
  · exact sec_ok se77 (by kernel_rfl)
  · exact sec_ok se78 (by kernel_rfl)
  · exact sec_ok se79 (by kernel_rfl)
theorem og5 (j : Nat) (hj : j < 16) (hne : 16 * 5 + j ≠ 203) : OpOK (16 * 5 + j) := by
  have hc : j = 0 ∨ j = 1 ∨ j = 2 ∨ j = 3 ∨ j = 4 ∨ j = 5 ∨ j = 6 ∨ j = 7 ∨ j = 8 ∨ j = 9 ∨ j = 10 ∨ j = 11 ∨ j = 12 ∨ j = 13 ∨ j = 14 ∨ j = 15 := by omega
  rcases hc with rfl | rfl | rfl | rfl | rfl | rfl | rfl | rfl | rfl | rfl | rfl | rfl | rfl | rfl | rfl | rfl
  · exact free_ok ot80 (by kernel_rfl)
  · exact free_ok ot81 (by kernel_rfl)
  · exact free_ok ot82 (by kernel_rfl)
  · exact free_ok ot83 (by kernel_rfl)
  · exact free_ok ot84 (by kernel_rfl)
  · exact free_ok ot85 (by kernel_rfl)
  · exact free_ok ot86 (by kernel_rfl)
  · exact free_ok ot87 (by kernel_rfl)
  · exact free_ok ot88 (by kernel_rfl)
  · exact free_ok ot89 (by kernel_rfl)
  · exact free_ok ot90 (by kernel_rfl)
  · exact free_ok ot91 (by kernel_rfl)
  · exact free_ok ot92 (by kernel_rfl)
  · exact free_ok ot93 (by kernel_rfl)
  · exact free_ok ot94 (by kernel_rfl)
  · exact free_ok ot95 (by kernel_rfl)
theorem sg5 (j : Nat) (hj : j < 16) : SecOK (16 * 5 + j) := by
  have hc : j = 0 ∨ j = 1 ∨ j = 2 ∨ j = 3 ∨ j = 4 ∨ j = 5 ∨ j = 6 ∨ j = 7 ∨ j = 8 ∨ j = 9 ∨ j = 10 ∨ j = 11 ∨ j = 12 ∨ j = 13 ∨ j = 14 ∨ j = 15 := by omega
  rcases hc with rfl | rfl | rfl | rfl | rfl | rfl | rfl | rfl | rfl | rfl | rfl | rfl | rfl | rfl | rfl | rfl
  · exact sec_ok se80 (by kernel_rfl)
  · exact sec_ok se81 (by kernel_rfl)
  · exact sec_ok se82 (by kernel_rfl)
  · exact sec_ok se83 (by kernel_rfl)
  · exact sec_ok se84 (by kernel_rfl)
  · exact sec_ok se85 (by kernel_rfl)
  · exact sec_ok se86 (by kernel_rfl)
  · exact sec_ok se87 (by kernel_rfl)
  · exact sec_ok se88 (by kernel_rfl)
  · exact sec_ok se89 (by kernel_rfl)
  · exact sec_ok se90 (by kernel_rfl)
  · exact sec_ok se91 (by kernel_rfl)
  · exact sec_ok se92 (by kernel_rfl)
  · exact sec_ok se93 (by kernel_rfl)
  · exact sec_ok se94 (by kernel_rfl)
  · exact sec_ok se95 (by kernel_rfl)
theorem og6 (j : Nat) (hj : j < 16) (hne : 16 * 6 + j ≠ 203) : OpOK (16 * 6 + j) := by
  have hc : j = 0 ∨ j = 1 ∨ j = 2 ∨ j = 3 ∨ j = 4 ∨ j = 5 ∨ j = 6 ∨ j = 7 ∨ j = 8 ∨ j = 9 ∨ j = 10 ∨ j = 11 ∨ j = 12 ∨ j = 13 ∨ j = 14 ∨ j = 15 := by omega
  rcases hc with rfl | rfl | rfl | rfl | rfl | rfl | rfl | rfl | rfl | rfl | rfl | rfl | rfl | rfl | rfl | rfl
  · exact free_ok ot96 (by kernel_rfl)
  · exact free_ok ot97 (by kernel_rfl)
  · exact free_ok ot98 (by kernel_rfl)
  · exact free_ok ot99 (by kernel_rfl)
  · exact free_ok ot100 (by kernel_rfl)
  · exact free_ok ot101 (by kernel_rfl)
  · exact free_ok ot102 (by kernel_rfl)
  · exact free_ok ot103 (by kernel_rfl)
  · exact free_ok ot104 (by kernel_rfl)
  · exact free_ok ot105 (by kernel_rfl)
  · exact free_ok ot106 (by kernel_rfl)
  · exact free_ok ot107 (by kernel_rfl)
  · exact free_ok ot108 (by kernel_rfl)
  · exact free_ok ot109 (by kernel_rfl)
  · exact free_ok ot110 (by kernel_rfl)
  · exact free_ok ot111 (by kernel_rfl)
theorem sg6 (j : Nat) (hj : j < 16) : SecOK (16 * 6 + j) := by
  have hc : j = 0 ∨ j = 1 ∨ j = 2 ∨ j = 3 ∨ j = 4 ∨ j = 5 ∨ j = 6 ∨ j = 7 ∨ j = 8 ∨ j = 9 ∨ j = 10 ∨ j = 11 ∨ j = 12 ∨ j = 13 ∨ j = 14 ∨ j = 15 := by omega
  rcases hc with rfl | rfl | rfl | rfl | rfl | rfl | rfl | rfl | rfl | rfl | rfl | rfl | rfl | rfl | rfl | rfl
  · exact sec_ok se96 (by kernel_rfl)
  · exact sec_ok se97 (by kernel_rfl)
  · exact sec_ok se98 (by kernel_rfl)
  · exact sec_ok se99 (by kernel_rfl)
  · exact sec_ok se100 (by kernel_rfl)
  · exact sec_ok se101 (by kernel_rfl)
  · exact sec_ok se102 (by kernel_rfl)
  · exact sec_ok se103 (by kernel_rfl)
  · exact sec_ok se104 (by kernel_rfl)
  · exact sec_ok se105 (by kernel_rfl)
  · exact sec_ok se106 (by kernel_rfl)
  · exact sec_ok se107 (by kernel_rfl)
  · exact sec_ok se108 (by kernel_rfl)
  · exact sec_ok se109 (by kernel_rfl)
  · exact sec_ok se110 (by kernel_rfl)
  · exact sec_ok se111 (by kernel_rfl)
theorem og7 (j : Nat) (hj : j < 16) (hne : 16 * 7 + j ≠ 203) : OpOK (16 * 7 + j) := by
  have hc : j = 0 ∨ j = 1 ∨ j = 2 ∨ j = 3 ∨ j = 4 ∨ j = 5 ∨ j = 6 ∨ j = 7 ∨ j = 8 ∨ j = 9 ∨ j = 10 ∨ j = 11 ∨ j = 12 ∨ j = 13 ∨ j = 14 ∨ j = 15 := by omega
  rcases hc with rfl | rfl | rfl | rfl | rfl | rfl | rfl | rfl | rfl | rfl | rfl | rfl | rfl | rfl | rfl | rfl
  · exact free_ok ot112 (by kernel_rfl)
  · exact free_ok ot113 (by kernel_rfl)
  · exact free_ok ot114 (by kernel_rfl)
  · exact free_ok ot115 (by kernel_rfl)
  · exact free_ok ot116 (by kernel_rfl)
  · exact free_ok ot117 (by kernel_rfl)
  · exact free_ok ot118 (by kernel_rfl)
  · exact free_ok ot119 (by kernel_rfl)
  · exact free_ok ot120 (by kernel_rfl)
  · exact free_ok ot121 (by kernel_rfl)
  · exact free_ok ot122 (by kernel_rfl)
  · exact free_ok ot123 (by kernel_rfl)
  · exact free_ok ot124 (by kernel_rfl)
  · exact free_ok ot125 (by kernel_rfl)
  · exact free_ok ot126 (by kernel_rfl)
  · exact free_ok ot127 (by kernel_rfl)
theorem sg7 (j : Nat) (hj : j < 16) : SecOK (16 * 7 + j) := by
  have hc : j = 0 ∨ j = 1 ∨ j = 2 ∨ j = 3 ∨ j = 4 ∨ j = 5 ∨ j = 6 ∨ j = 7 ∨ j = 8 ∨ j = 9 ∨ j = 10 ∨ j = 11 ∨ j = 12 ∨ j = 13 ∨ j = 14 ∨ j = 15 := by omega
  rcases hc with rfl | rfl | rfl | rfl | rfl | rfl | rfl | rfl | rfl | rfl | rfl | rfl | rfl | rfl | rfl | rfl
  · exact sec_ok se112 (by kernel_rfl)
  · exact sec_ok se113 (by kernel_rfl)
  · exact sec_ok se114 (by kernel_rfl)
  · exact sec_ok se115 (by kernel_rfl)
  · exact sec_ok se116 (by kernel_rfl)
  · exact sec_ok se117 (by kernel_rfl)
  · exact sec_ok se118 (by kernel_rfl)
  · exact sec_ok se119 (by kernel_rfl)
  · exact sec_ok se120 (by kernel_rfl)
  · exact sec_ok se121 (by kernel_rfl)
  · exact sec_ok se122 (by kernel_rfl)
  · exact sec_ok se123 (by kernel_rfl)
  · exact sec_ok se124 (by kernel_rfl)
  · exact sec_ok se125 (by kernel_rfl)
  · exact sec_ok se126 (by kernel_rfl)
  · exact sec_ok se127 (by kernel_rfl)
theorem og8 (j : Nat) (hj : j < 16) (hne : 16 * 8 + j ≠ 203) : OpOK (16 * 8 + j) := by
  have hc : j = 0 ∨ j = 1 ∨ j = 2 ∨ j = 3 ∨ j = 4 ∨ j = 5 ∨ j = 6 ∨ j = 7 ∨ j = 8 ∨ j = 9 ∨ j = 10 ∨ j = 11 ∨ j = 12 ∨ j = 13 ∨ j = 14 ∨ j = 15 := by omega
  rcases hc with rfl | rfl | rfl | rfl | rfl | rfl | rfl | rfl | rfl | rfl | rfl | rfl | rfl | rfl | rfl | rfl
  · exact free_ok ot128 (by kernel_rfl)
  · exact free_ok ot129 (by kernel_rfl)
  · exact free_ok ot130 (by kernel_rfl)
  · exact free_ok ot131 (by kernel_rfl)
  · exact free_ok ot132 (by kernel_rfl)
  · exact free_ok ot133 (by kernel_rfl)
  · exact free_ok ot134 (by kernel_rfl)
  · exact free_ok ot135 (by kernel_rfl)
  · exact free_ok ot136 (by kernel_rfl)
  · exact free_ok ot137 (by kernel_rfl)
  · exact free_ok ot138 (by kernel_rfl)
  · exact free_ok ot139 (by kernel_rfl)
  · exact free_ok ot140 (by kernel_rfl)
  · exact free_ok ot141 (by kernel_rfl)
  · exact free_ok ot142 (by kernel_rfl)
  · exact free_ok ot143 (by kernel_rfl)
theorem sg8 (j : Nat) (hj : j < 16) : SecOK (16 * 8 + j) := by
  have hc : j = 0 ∨ j = 1 ∨ j = 2 ∨ j = 3 ∨ j = 4 ∨ j = 5 ∨ j = 6 ∨ j = 7 ∨ j = 8 ∨ j = 9 ∨ j = 10 ∨ j = 11 ∨ j = 12 ∨ j = 13 ∨ j = 14 ∨ j = 15 := by omega
  rcases hc with rfl | rfl | rfl | rfl | rfl | rfl | rfl | rfl | rfl | rfl | rfl | rfl | rfl | rfl | rfl | rfl
  · exact sec_ok se128 (by kernel_rfl)
  · exact sec_ok se129 (by kernel_rfl)
  · exact sec_ok se130 (by kernel_rfl)
  · exact sec_ok se131 (by kernel_rfl)
  · exact sec_ok se132 (by kernel_rfl)
  · exact sec_ok se133 (by kernel_rfl)
  · exact sec_ok se134 (by kernel_rfl)
  · exact sec_ok se135 (by kernel_rfl)
  · exact sec_ok se136 (by kernel_rfl)
  · exact sec_ok se137 (by kernel_rfl)
  · exact sec_ok se138 (by kernel_rfl)
  · exact sec_ok se139 (by kernel_rfl)
  · exact sec_ok se140 (by kernel_rfl)
  · exact sec_ok se141 (by kernel_rfl)
  · exact sec_ok se142 (by kernel_rfl)
  · exact sec_ok se143 (by kernel_rfl)
theorem og9 (j : Nat) (hj : j < 16) (hne : 16 * 9 + j ≠ 203) : OpOK (16 * 9 + j) := by
  have hc : j = 0 ∨ j = 1 ∨ j = 2 ∨ j = 3 ∨ j = 4 ∨ j = 5 ∨ j = 6 ∨ j = 7 ∨ j = 8 ∨ j = 9 ∨ j = 10 ∨ j = 11 ∨ j = 12 ∨ j = 13 ∨ j = 14 ∨ j = 15 := by omega
  rcases hc with rfl | rfl | rfl | rfl | rfl | rfl | rfl | rfl | rfl | rfl | rfl | rfl | rfl | rfl | rfl | rfl
  · exact free_ok ot144 (by kernel_rfl)
  · exact free_ok ot145 (by kernel_rfl)
  · exact free_ok ot146 (by kernel_rfl)
  · exact free_ok ot147 (by kernel_rfl)
  · exact free_ok ot148 (by kernel_rfl)
  · exact free_ok ot149 (by kernel_rfl)
  · exact free_ok ot150 (by kernel_rfl)
  · exact free_ok ot151 (by kernel_rfl)
  · exact free_ok ot152 (by kernel_rfl)
  · exact free_ok ot153 (by kernel_rfl)
  · exact free_ok ot154 (by kernel_rfl)
  · exact free_ok ot155 (by kernel_rfl)
  · exact free_ok ot156 (by kernel_rfl)
  · exact free_ok ot157 (by kernel_rfl)
  · exact free_ok ot158 (by kernel_rfl)
  · exact free_ok ot159 (by kernel_rfl)
theorem sg9 (j : Nat) (hj : j < 16) : SecOK (16 * 9 + j) := by
  have hc : j = 0 ∨ j = 1 ∨ j = 2 ∨ j = 3 ∨ j = 4 ∨ j = 5 ∨ j = 6 ∨ j = 7 ∨ j = 8 ∨ j = 9 ∨ j = 10 ∨ j = 11 ∨ j = 12 ∨ j = 13 ∨ j = 14 ∨ j = 15 := by omega
  rcases hc with rfl | rfl | rfl | rfl | rfl | rfl | rfl | rfl | rfl | rfl | rfl | rfl | rfl | rfl | rfl | rfl
  · exact sec_ok se144 (by kernel_rfl)
  · exact sec_ok se145 (by kernel_rfl)
  · exact sec_ok se146 (by kernel_rfl)
  · exact sec_ok se147 (by kernel_rfl)
  · exact sec_ok se148 (by kernel_rfl)
  · exact sec_ok se149 (by kernel_rfl)
  · exact sec_ok se150 (by kernel_rfl)
  · exact sec_ok se151 (by kernel_rfl)
  · exact sec_ok se152 (by kernel_rfl)
  · exact sec_ok se153 (by kernel_rfl)
  · exact sec_ok se154 (by kernel_rfl)
  · exact sec_ok se155 (by kernel_rfl)
  · exact sec_ok se156 (by kernel_rfl)
  · exact sec_ok se157 (by kernel_rfl)
  · exact sec_ok se158 (by kernel_rfl)
  · exact sec_ok se159 (by kernel_rfl)
theorem og10 (j : Nat) (hj : j < 16) (hne : 16 * 10 + j ≠ 203) : OpOK (16 * 10 + j) := by
  have hc : j = 0 ∨ j = 1 ∨ j = 2 ∨ j = 3 ∨ j = 4 ∨ j = 5 ∨ j = 6 ∨ j = 7 ∨ j = 8 ∨ j = 9 ∨ j = 10 ∨ j = 11 ∨ j = 12 ∨ j = 13 ∨ j = 14 ∨ j = 15 := by omega
  rcases hc with rfl | rfl | rfl | rfl | rfl | rfl | rfl | rfl | rfl | rfl | rfl | rfl | rfl | rfl | rfl | rfl
  · exact free_ok ot160 (by kernel_rfl)
  · exact free_ok ot161 (by kernel_rfl)
  · exact free_ok ot162 (by kernel_rfl)
  · exact free_ok ot163 (by kernel_rfl)
  · exact free_ok ot164 (by kernel_rfl)
  · exact free_ok ot165 (by kernel_rfl)
  · exact free_ok ot166 (by kernel_rfl)
  · exact free_ok ot167 (by kernel_rfl)
  · exact free_ok ot168 (by kernel_rfl)
  · exact free_ok ot169 (by kernel_rfl)
  · exact free_ok ot170 (by kernel_rfl)
  · exact free_ok ot171 (by kernel_rfl)
  · exact free_ok ot172 (by kernel_rfl)
  · exact free_ok ot173 (by kernel_rfl)
  · exact free_ok ot174 (by kernel_rfl)
  · exact free_ok ot175 (by kernel_rfl)
theorem sg10 (j : Nat) (hj : j < 16) : SecOK (16 * 10 + j) := by
  have hc : j = 0 ∨ j = 1 ∨ j = 2 ∨ j = 3 ∨ j = 4 ∨ j = 5 ∨ j = 6 ∨ j = 7 ∨ j = 8 ∨ j = 9 ∨ j = 10 ∨ j = 11 ∨ j = 12 ∨ j = 13 ∨ j = 14 ∨ j = 15 := by omega
  rcases hc with rfl | rfl | rfl | rfl | rfl | rfl | rfl | rfl | rfl | rfl | rfl | rfl | rfl | rfl | rfl | rfl
  · exact sec_ok se160 (by kernel_rfl)
  · exact sec_ok se161 (by kernel_rfl)
  · exact sec_ok se162 (by kernel_rfl)
  · exact sec_ok se163 (by kernel_rfl)
  · exact sec_ok se164 (by kernel_rfl)
  · exact sec_ok se165 (by kernel_rfl)
  · exact sec_ok se166 (by kernel_rfl)
  · exact sec_ok se167 (by kernel_rfl)
  · exact sec_ok se168 (by kernel_rfl)
  · exact sec_ok se169 (by kernel_rfl)
  · exact sec_ok se170 (by kernel_rfl)
  · exact sec_ok se171 (by kernel_rfl)
  · exact sec_ok se172 (by kernel_rfl)
  · exact sec_ok se173 (by kernel_rfl)
  · exact sec_ok se174 (by kernel_rfl)
  · exact sec_ok se175 (by kernel_rfl)
theorem og11 (j : Nat) (hj : j < 16) (hne : 16 * 11 + j ≠ 203) : OpOK (16 * 11 + j) := by
  have hc : j = 0 ∨ j = 1 ∨ j = 2 ∨ j = 3 ∨ j = 4 ∨ j = 5 ∨ j = 6 ∨ j = 7 ∨ j = 8 ∨ j = 9 ∨ j = 10 ∨ j = 11 ∨ j = 12 ∨ j = 13 ∨ j = 14 ∨ j = 15 := by omega
  rcases hc with rfl | rfl | rfl | rfl | rfl | rfl | rfl | rfl | rfl | rfl | rfl | rfl | rfl | rfl | rfl | rfl
  · exact free_ok ot176 (by kernel_rfl)
  · exact free_ok ot177 (by kernel_rfl)
  · exact free_ok ot178 (by kernel_rfl)
  · exact free_ok ot179 (by kernel_rfl)
  · exact free_ok ot180 (by kernel_rfl)
  · exact free_ok ot181 (by kernel_rfl)
  · exact free_ok ot182 (by kernel_rfl)
  · exact free_ok ot183 (by kernel_rfl)
  · exact free_ok ot184 (by kernel_rfl)
  · exact free_ok ot185 (by kernel_rfl)
  · exact free_ok ot186 (by kernel_rfl)
  · exact free_ok ot187 (by kernel_rfl)
  · exact free_ok ot188 (by kernel_rfl)
  · exact free_ok ot189 (by kernel_rfl)
  · exact free_ok ot190 (by kernel_rfl)
  · exact free_ok ot191 (by kernel_rfl)
theorem sg11 (j : Nat) (hj : j < 16) : SecOK (16 * 11 + j) := by
  have hc : j = 0 ∨ j = 1 ∨ j = 2 ∨ j = 3 ∨ j = 4 ∨ j = 5 ∨ j = 6 ∨ j = 7 ∨ j = 8 ∨ j = 9 ∨ j = 10 ∨ j = 11 ∨ j = 12 ∨ j = 13 ∨ j = 14 ∨ j = 15 := by omega
  rcases hc with rfl | rfl | rfl | rfl | rfl | rfl | rfl | rfl | rfl | rfl | rfl | rfl | rfl | rfl | rfl | rfl
  · exact sec_ok se176 (by kernel_rfl)
  · exact sec_ok se177 (by kernel_rfl)
  · exact sec_ok se178 (by kernel_rfl)
  · exact sec_ok se179 (by kernel_rfl)
  · exact sec_ok se180 (by kernel_rfl)
  · exact sec_ok se181 (by kernel_rfl)
  · exact sec_ok se182 (by kernel_rfl)
  · exact sec_ok se183 (by kernel_rfl)
  · exact sec_ok se184 (by kernel_rfl)
  · exact sec_ok se185 (by kernel_rfl)
  · exact sec_ok se186 (by kernel_rfl)
  · exact sec_ok se187 (by kernel_rfl)
  · exact sec_ok se188 (by kernel_rfl)
  · exact sec_ok se189 (by kernel_rfl)
  · exact sec_ok se190 (by kernel_rfl)
  · exact sec_ok se191 (by kernel_rfl)
theorem og12 (j : Nat) (hj : j < 16) (hne : 16 * 12 + j ≠ 203) : OpOK (16 * 12 + j) := by
  have hc : j = 0 ∨ j = 1 ∨ j = 2 ∨ j = 3 ∨ j = 4 ∨ j = 5 ∨ j = 6 ∨ j = 7 ∨ j = 8 ∨ j = 9 ∨ j = 10 ∨ j = 11 ∨ j = 12 ∨ j = 13 ∨ j = 14 ∨ j = 15 := by omega
  rcases hc with rfl | rfl | rfl | rfl | rfl | rfl | rfl | rfl | rfl | rfl | rfl | rfl | rfl | rfl | rfl | rfl
  · exact cond_ok ot192 (by kernel_rfl)
  · exact free_ok ot193 (by kernel_rfl)
  · exact cond_ok ot194 (by kernel_rfl)
  · exact free_ok ot195 (by kernel_rfl)
  · exact cond_ok ot196 (by kernel_rfl)
  · exact free_ok ot197 (by kernel_rfl)
  · exact free_ok ot198 (by kernel_rfl)
  · exact free_ok ot199 (by kernel_rfl)
  · exact cond_ok ot200 (by kernel_rfl)
  · exact free_ok ot201 (by kernel_rfl)
  · exact cond_ok ot202 (by kernel_rfl)
  · exact absurd rfl hne
  · exact cond_ok ot204 (by kernel_rfl)
  · exact free_ok ot205 (by kernel_rfl)
  · exact free_ok ot206 (by kernel_rfl)
  · exact free_ok ot207 (by kernel_rfl)
theorem sg12 (j : Nat) (hj : j < 16) : SecOK (16 * 12 + j) := by
  have hc : j = 0 ∨ j = 1 ∨ j = 2 ∨ j = 3 ∨ j = 4 ∨ j = 5 ∨ j = 6 ∨ j = 7 ∨ j = 8 ∨ j = 9 ∨ j = 10 ∨ j = 11 ∨ j = 12 ∨ j = 13 ∨ j = 14 ∨ j = 15 := by omega
  rcases hc with rfl | rfl | rfl | rfl | rfl | rfl | rfl | rfl | rfl | rfl | rfl | rfl | rfl | rfl | rfl | rfl
  · exact sec_ok se192 (by kernel_rfl)
  · exact sec_ok se193 (by kernel_rfl)
  · exact sec_ok se194 (by kernel_rfl)
  · exact sec_ok se195 (by kernel_rfl)
  · exact sec_ok se196 (by kernel_rfl)
  · exact sec_ok se197 (by kernel_rfl)
  · exact sec_ok se198 (by kernel_rfl)
  · exact sec_ok se199 (by kernel_rfl)
  · exact sec_ok se200 (by kernel_rfl)
  · exact sec_ok se201 (by kernel_rfl)
  · exact sec_ok se202 (by kernel_rfl)
  · exact sec_ok se203 (by kernel_rfl)
  · exact sec_ok se204 (by kernel_rfl)
  · exact sec_ok se205 (by kernel_rfl)
  · exact sec_ok se206 (by kernel_rfl)
  · exact sec_ok se207 (by kernel_rfl)
theorem og13 (j : Nat) (hj : j < 16) (hne : 16 * 13 + j ≠ 203) : OpOK (16 * 13 + j) := by
  have hc : j = 0 ∨ j = 1 ∨ j = 2 ∨ j = 3 ∨ j = 4 ∨ j = 5 ∨ j = 6 ∨ j = 7 ∨ j = 8 ∨ j = 9 ∨ j = 10 ∨ j = 11 ∨ j = 12 ∨ j = 13 ∨ j = 14 ∨ j = 15 := by omega
  rcases hc with rfl | rfl | rfl | rfl | rfl | rfl | rfl | rfl | rfl | rfl | rfl | rfl | rfl | rfl | rfl | rfl
  · exact cond_ok ot208 (by kernel_rfl)
  · exact free_ok ot209 (by kernel_rfl)
  · exact cond_ok ot210 (by kernel_rfl)
  · exact lock_ok ot211 (by kernel_rfl)
  · exact cond_ok ot212 (by kernel_rfl)
  · exact free_ok ot213 (by kernel_rfl)
  · exact free_ok ot214 (by kernel_rfl)
  · exact free_ok ot215 (by kernel_rfl)
  · exact cond_ok ot216 (by kernel_rfl)
  · exact free_ok ot217 (by kernel_rfl)
  · exact cond_ok ot218 (by kernel_rfl)
  · exact lock_ok ot219 (by kernel_rfl)
  · exact cond_ok ot220 (by kernel_rfl)
  · exact lock_ok ot221 (by kernel_rfl)
  · exact free_ok ot222 (by kernel_rfl)
  · exact free_ok ot223 (by kernel_rfl)
theorem sg13 (j : Nat) (hj : j < 16) : SecOK (16 * 13 + j) := by
  have hc : j = 0 ∨ j = 1 ∨ j = 2 ∨ j = 3 ∨ j = 4 ∨ j = 5 ∨ j = 6 ∨ j = 7 ∨ j = 8 ∨ j = 9 ∨ j = 10 ∨ j = 11 ∨ j = 12 ∨ j = 13 ∨ j = 14 ∨ j = 15 := by omega
  rcases hc with rfl | rfl | rfl | rfl | rfl | rfl | rfl | rfl | rfl | rfl | rfl | rfl | rfl | rfl | rfl | rfl
  · exact sec_ok se208 (by kernel_rfl)
  · exact sec_ok se209 (by kernel_rfl)
  · exact sec_ok se210 (by kernel_rfl)
  · exact sec_ok se211 (by kernel_rfl)
  · exact sec_ok se212 (by kernel_rfl)
  · exact sec_ok se213 (by kernel_rfl)
  · exact sec_ok se214 (by kernel_rfl)
  · exact sec_ok se215 (by kernel_rfl)
  · exact sec_ok se216 (by kernel_rfl)
  · exact sec_ok se217 (by kernel_rfl)
  · exact sec_ok se218 (by kernel_rfl)
  · exact sec_ok se219 (by kernel_rfl)
  · exact sec_ok se220 (by kernel_rfl)
  · exact sec_ok se221 (by kernel_rfl)
  · exact sec_ok se222 (by kernel_rfl)
  · exact sec_ok se223 (by kernel_rfl)
theorem og14 (j : Nat) (hj : j < 16) (hne : 16 * 14 + j ≠ 203) : OpOK (16 * 14 + j) := by
  have hc : j = 0 ∨ j = 1 ∨ j = 2 ∨ j = 3 ∨ j = 4 ∨ j = 5 ∨ j = 6 ∨ j = 7 ∨ j = 8 ∨ j = 9 ∨ j = 10 ∨ j = 11 ∨ j = 12 ∨ j = 13 ∨ j = 14 ∨ j = 15 := by omega
  rcases hc with rfl | rfl | rfl | rfl | rfl | rfl | rfl | rfl | rfl | rfl | rfl | rfl | rfl | rfl | rfl | rfl
  · exact free_ok ot224 (by kernel_rfl)
  · exact free_ok ot225 (by kernel_rfl)
  · exact free_ok ot226 (by kernel_rfl)
  · exact lock_ok ot227 (by kernel_rfl)
  · exact lock_ok ot228 (by kernel_rfl)
  · exact free_ok ot229 (by kernel_rfl)
  · exact free_ok ot230 (by kernel_rfl)
  · exact free_ok ot231 (by kernel_rfl)
  · exact free_ok ot232 (by kernel_rfl)
  · exact free_ok ot233 (by kernel_rfl)
  · exact free_ok ot234 (by kernel_rfl)
  · exact lock_ok ot235 (by kernel_rfl)
  · exact lock_ok ot236 (by kernel_rfl)
  · exact lock_ok ot237 (by kernel_rfl)
  · exact free_ok ot238 (by kernel_rfl)
  · exact free_ok ot239 (by kernel_rfl)
theorem sg14 (j : Nat) (hj : j < 16) : SecOK (16 * 14 + j) := by
  have hc : j = 0 ∨ j = 1 ∨ j = 2 ∨ j = 3 ∨ j = 4 ∨ j = 5 ∨ j = 6 ∨ j = 7 ∨ j = 8 ∨ j = 9 ∨ j = 10 ∨ j = 11 ∨ j = 12 ∨ j = 13 ∨ j = 14 ∨ j = 15 := by omega
  rcases hc with rfl | rfl | rfl | rfl | rfl | rfl | rfl | rfl | rfl | rfl | rfl | rfl | rfl | rfl | rfl | rfl
  · exact sec_ok se224 (by kernel_rfl)
  · exact sec_ok se225 (by kernel_rfl)
  · exact sec_ok se226 (by kernel_rfl)
  · exact sec_ok se227 (by kernel_rfl)
  · exact sec_ok se228 (by kernel_rfl)
  · exact sec_ok se229 (by kernel_rfl)
  · exact sec_ok se230 (by kernel_rfl)
  · exact sec_ok se231 (by kernel_rfl)
  · exact sec_ok se232 (by kernel_rfl)
  · exact sec_ok se233 (by kernel_rfl)
  · exact sec_ok se234 (by kernel_rfl)
  · exact sec_ok se235 (by kernel_rfl)
  · exact sec_ok se236 (by kernel_rfl)
  · exact sec_ok se237 (by kernel_rfl)
  · exact sec_ok se238 (by kernel_rfl)
  · exact sec_ok se239 (by kernel_rfl)
theorem og15 (j : Nat) (hj : j < 16) (hne : 16 * 15 + j ≠ 203) : OpOK (16 * 15 + j) := by
  have hc : j = 0 ∨ j = 1 ∨ j = 2 ∨ j = 3 ∨ j = 4 ∨ j = 5 ∨ j = 6 ∨ j = 7 ∨ j = 8 ∨ j = 9 ∨ j = 10 ∨ j = 11 ∨ j = 12 ∨ j = 13 ∨ j = 14 ∨ j = 15 := by omega
  rcases hc with rfl | rfl | rfl | rfl | rfl | rfl | rfl | rfl | rfl | rfl | rfl | rfl | rfl | rfl | rfl | rfl
  · exact free_ok ot240 (by kernel_rfl)
  · exact free_ok ot241 (by kernel_rfl)
  · exact free_ok ot242 (by kernel_rfl)
  · exact free_ok ot243 (by kernel_rfl)
  · exact lock_ok ot244 (by kernel_rfl)
  · exact free_ok ot245 (by kernel_rfl)
  · exact free_ok ot246 (by kernel_rfl)
  · exact free_ok ot247 (by kernel_rfl)
  · exact free_ok ot248 (by kernel_rfl)
  · exact free_ok ot249 (by kernel_rfl)
  · exact free_ok ot250 (by kernel_rfl)
  · exact free_ok ot251 (by kernel_rfl)
  · exact lock_ok ot252 (by kernel_rfl)
  · exact lock_ok ot253 (by kernel_rfl)
  · exact free_ok ot254 (by kernel_rfl)
  · exact free_ok ot255 (by kernel_rfl)
theorem sg15 (j : Nat) (hj : j < 16) : SecOK (16 * 15 + j) := by
  have hc : j = 0 ∨ j = 1 ∨ j = 2 ∨ j = 3 ∨ j = 4 ∨ j = 5 ∨ j = 6 ∨ j = 7 ∨ j = 8 ∨ j = 9 ∨ j = 10 ∨ j = 11 ∨ j = 12 ∨ j = 13 ∨ j = 14 ∨ j = 15 := by omega
  rcases hc with rfl | rfl | rfl | rfl | rfl | rfl | rfl | rfl | rfl | rfl | rfl | rfl | rfl | rfl | rfl | rfl
  · exact sec_ok se240 (by kernel_rfl)
  · exact sec_ok se241 (by kernel_rfl)
  · exact sec_ok se242 (by kernel_rfl)
  · exact sec_ok se243 (by kernel_rfl)
  · exact sec_ok se244 (by kernel_rfl)
  · exact sec_ok se245 (by kernel_rfl)
  · exact sec_ok se246 (by kernel_rfl)
  · exact sec_ok se247 (by kernel_rfl)
  · exact sec_ok se248 (by kernel_rfl)
  · exact sec_ok se249 (by kernel_rfl)
  · exact sec_ok se250 (by kernel_rfl)
  · exact sec_ok se251 (by kernel_rfl)
  · exact sec_ok se252 (by kernel_rfl)
  · exact sec_ok se253 (by kernel_rfl)
  · exact sec_ok se254 (by kernel_rfl)
  · exact sec_ok se255 (by kernel_rfl)
theorem op_all (k : Nat) (hk : k < 256) (hne : k ≠ 203) : OpOK k := by
  obtain ⟨i, j, e, hj, hi⟩ : ∃ i j, k = 16 * i + j ∧ j < 16 ∧ i < 16 := ⟨k / 16, k % 16, by omega, by omega, by omega⟩
  subst e
  have hc : i = 0 ∨ i = 1 ∨ i = 2 ∨ i = 3 ∨ i = 4 ∨ i = 5 ∨ i = 6 ∨ i = 7 ∨ i = 8 ∨ i = 9 ∨ i = 10 ∨ i = 11 ∨ i = 12 ∨ i = 13 ∨ i = 14 ∨ i = 15 := by omega
  rcases hc with rfl | rfl | rfl | rfl | rfl | rfl | rfl | rfl | rfl | rfl | rfl | rfl | rfl | rfl | rfl | rfl
  · exact og0 j hj hne
  · exact og1 j hj hne
  · exact og2 j hj hne
  · exact og3 j hj hne
  · exact og4 j hj hne
  · exact og5 j hj hne
  · exact og6 j hj hne
  · exact og7 j hj hne
  · exact og8 j hj hne
  · exact og9 j hj hne
  · exact og10 j hj hne
  · exact og11 j hj hne
  · exact og12 j hj hne
  · exact og13 j hj hne
  · exact og14 j hj hne
  · exact og15 j hj hne
theorem sec_all (k : Nat) (hk : k < 256) : SecOK k := by
  obtain ⟨i, j, e, hj, hi⟩ : ∃ i j, k = 16 * i + j ∧ j < 16 ∧ i < 16 := ⟨k / 16, k % 16, by omega, by omega, by omega⟩
  subst e
  have hc : i = 0 ∨ i = 1 ∨ i = 2 ∨ i = 3 ∨ i = 4 ∨ i = 5 ∨ i = 6 ∨ i = 7 ∨ i = 8 ∨ i = 9 ∨ i = 10 ∨ i = 11 ∨ i = 12 ∨ i = 13 ∨ i = 14 ∨ i = 15 := by omega
  rcases hc with rfl | rfl | rfl | rfl | rfl | rfl | rfl | rfl | rfl | rfl | rfl | rfl | rfl | rfl | rfl | rfl
  · exact sg0 j hj
  · exact sg1 j hj
  · exact sg2 j hj
  · exact sg3 j hj
  · exact sg4 j hj
  · exact sg5 j hj
  · exact sg6 j hj
  · exact sg7 j hj
  · exact sg8 j hj
  · exact sg9 j hj
  · exact sg10 j hj
  · exact sg11 j hj
  · exact sg12 j hj
  · exact sg13 j hj
  · exact sg14 j hj
  · exact sg15 j hj
end Go.Proofs.YtmlfmkebljdoiaaGreatDoor
