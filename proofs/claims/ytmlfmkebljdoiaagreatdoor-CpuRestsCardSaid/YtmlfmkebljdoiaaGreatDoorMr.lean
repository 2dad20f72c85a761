/- Own text: CpuRests: the law. -/
import Derived.Test.YtmlfmkebljdoiaaGreatDoorLr
import Derived.Test.YtmlfmkebljdoiaaGreatDoorRm
namespace Go.Proofs.YtmlfmkebljdoiaaGreatDoor
open Go.Ev Go.Ev.Tr Go.Proofs
set_option maxRecDepth 1000000
theorem picksA_eq {v : Int} {c : Nat} (hv : v = c) : picks9 v c = dpick9 c := by
  unfold picks9 dpick9
  rw [hv]
  refine List.map_congr_left fun j hj => ?_
  have hj := List.mem_range.1 hj
  by_cases e : j = c
  · subst e; simp
  · have : ((c : Int) == (j : Int)) = false := by simp; omega
    rw [this]
    cases hb : Nat.beq j c
    · rfl
    · exact absurd (Nat.eq_of_beq_eq_true hb) e
theorem goodA (r : Rg) : GoodX (gA r) := by
  have h := bnd_in r
  exact ⟨⟨h.hA, h.hF, h.hB, h.hC, h.hD, h.hE, h.hH, h.hL, h.hSP, ⟨by show (0 : Int) ≤ 512; omega, by show (512 : Int) ≤ 65535; omega⟩, h.hSt⟩, bnd_f16 r, rfl⟩
theorem startA_eq (r : Rg) : startA (bndR (gA r)) = [true, false] := by
  have hg := goodA r
  rw [hg.id]
  have h1 : fOk (gA r) = true := by unfold fOk; rw [hg.f16]; rfl
  have h2 : eqRr (gA r) (gA r) = true := by simp [eqRr]
  unfold startA
  rw [h1, h2]; rfl
theorem runA {r : Rg} {op q : Int} {c : Cpu} (h : instrM 7 0 (ofR (gA r)) (mA op) = some (q, c, mA op)) : askA (gA r) op = true ∧ (qA (gA r) op).c = c ∧ (qA (gA r) op).m = mA op := by
  obtain ⟨k1, k2⟩ := runsR_of (n := 1) (by omega) (show runM 1 (ofR (gA r)) (mA op) 0 = some (c, mA op, _) by rw [run_step h]; simp only [runM]; rfl)
  unfold askA qA
  rw [(goodA r).id]
  have e : runsR (ofR (gA r)) (mA op) 1 = _ := k2
  exact ⟨k1, by rw [e], by rw [e]⟩
theorem fstA {r : Rg} {op q : Int} {c : Cpu} (hop : op = mA op 512) (h : firstF (z false (gA r)) (mA op) op = some (q, c, mA op)) : instrM 7 0 (ofR (gA r)) (mA op) = some (q, c, mA op) := by
  have hz : z false (gA r) = gA r := rfl
  rw [hz] at h
  have e : mA op (pk16 (gA r).PC) = op := hop.symm
  rw [first_eq, e, h]
/-- Out of one that rests, the way. -/
theorem restA {r : Rg} {which idle line op st pc : Int} {k : Nat} {c : Cpu} {nf : Int → Int} (hw : pickV which (13 : Nat) = k) (hq : askA (gA r) op = true ∧ (qA (gA r) op).c = c ∧ (qA (gA r) op).m = mA op) (hr : Rest c (gA r).A st pc nf) : condsA nf (gA r) which idle line k op st pc = dirsA k := by
  obtain ⟨q1, q2, q3⟩ := hq
  have hp := pickV_in (c := idle) (n := ((40 : Nat) : Int)) (by decide)
  have hw' := hr.w
  simp only [Prod.mk.injEq] at hw'
  obtain ⟨w1, w2, w3, w4, w5, w6, w7⟩ := hw'
  have hfin : (finA nf (sA (gA r) c (mA op) k st pc line (pickV idle (40 : Nat)))).isSome = true := by
    unfold finA
    rw [if_pos]
    · rfl
    · exact ⟨⟨xA (gA r), (gA r).A, ⟨(gA r).SP, 0, 65535⟩, rfl, w6⟩, by show -1 ≤ pickV idle (40 : Nat); omega, by show pickV idle (40 : Nat) ≤ 39; omega, w1, w2, w3, w4, w5, w7, fun j _ _ => hr.t j⟩
  unfold condsA dirsA
  rw [picksA_eq hw, startA_eq, q1, q2, q3, hfin, w7]
theorem lnA_eq {line : Int} {j : Nat} (h : pickV line (5 : Nat) = j) (hj : j ≤ 4) : lnA line = ((2 ^ j : Nat) : Int) := by
  unfold lnA
  rw [h]
  have hc : j = 0 ∨ j = 1 ∨ j = 2 ∨ j = 3 ∨ j = 4 := by omega
  rcases hc with rfl | rfl | rfl | rfl | rfl <;> decide
theorem cycA {c : Cpu} {m : Mem} (h : c.want.k = 0) : cycD c m = 0 := by unfold cycD; rw [h]; rfl
/-- One that goes on. -/
theorem goA {r : Rg} {line op pc : Int} {c : Cpu} (hc : (qA (gA r) op).c = c) (h0 : c.want.k = 0) (h : ∀ j, j ≤ 4 → ((tickM c 0 (((2 ^ j : Nat) : Int) % 32)).2, (tickM c 0 (((2 ^ j : Nat) : Int) % 32)).1.regs.St, (tickM c 0 (((2 ^ j : Nat) : Int) % 32)).1.want.k, (tickM c 0 (((2 ^ j : Nat) : Int) % 32)).1.want.a) = ((0 : Int), (0 : Int), (1 : Int), pc)) :
    endA (gA r) op line = [true, true, true, true] ∧ ((eA (qA (gA r) op).c (qA (gA r) op).m line).1.want.a == pc) = true := by
  have hp := pickV_in (c := line) (n := ((5 : Nat) : Int)) (by decide)
  obtain ⟨j, hj⟩ : ∃ j : Nat, pickV line (5 : Nat) = j := ⟨(pickV line (5 : Nat)).toNat, by omega⟩
  have hj4 : j ≤ 4 := by omega
  have e : eA (qA (gA r) op).c (qA (gA r) op).m line = tickM c 0 (((2 ^ j : Nat) : Int) % 32) := by unfold eA; rw [hc, cycA h0, lnA_eq hj hj4]
  have hh := h j hj4
  simp only [Prod.mk.injEq] at hh
  obtain ⟨a1, a2, a3, a4⟩ := hh
  unfold endA
  rw [e, a1, a2, a3, a4]
  simp only [BEq.rfl, and_self]
theorem lockA {r : Rg} {line op : Int} {c : Cpu} (hc : (qA (gA r) op).c = c) (h0 : c.want.k = 0) (h3 : c.regs.St = 3) (h : ∀ l, tickM c 0 l = (c, 0)) : endL (gA r) op line = [true, true, true] ∧ ((eA (qA (gA r) op).c (qA (gA r) op).m line).1.regs.St == 3) = true := by
  have e : eA (qA (gA r) op).c (qA (gA r) op).m line = (c, 0) := by unfold eA; rw [hc, cycA h0, h]
  unfold endL
  rw [e]
  simp only [h0, h3, BEq.rfl, and_self]
theorem evA0 : ∀ x A sp c m k ok s p ln i, roundT env7 ro0 call7 154 (sp10 0 0 1 513) (.code LB10) (cnA 0 0 1 513 ⟨gxA x A sp, c, m, k, ok, s, p, ln, i⟩) = roundA 0 0 1 513 ((fun _ => 0) i) A ⟨gxA x A sp, c, m, k, ok, s, p, ln, i⟩ := fun x A sp c m k ok s p ln i => congrFun (congrFun (congrFun (congrFun (congrFun (congrFun (congrFun (congrFun (congrFun (congrFun (congrFun roundA_ev0 x) A) sp) c) m) k) ok) s) p) ln) i
theorem evA1 : ∀ x A sp c m k ok s p ln i, roundT env7 ro0 call7 154 (sp10 1 1 2 514) (.code LB10) (cnA 1 1 2 514 ⟨gxA x A sp, c, m, k, ok, s, p, ln, i⟩) = roundA 1 1 2 514 ((fun _ => 0) i) A ⟨gxA x A sp, c, m, k, ok, s, p, ln, i⟩ := fun x A sp c m k ok s p ln i => congrFun (congrFun (congrFun (congrFun (congrFun (congrFun (congrFun (congrFun (congrFun (congrFun (congrFun roundA_ev1 x) A) sp) c) m) k) ok) s) p) ln) i
theorem evA2 : ∀ x A sp c m k ok s p ln i, roundT env7 ro0 call7 154 (sp10 2 12 3 513) (.code LB10) (cnA 2 12 3 513 ⟨gxA x A sp, c, m, k, ok, s, p, ln, i⟩) = roundA 2 12 3 513 ((fun i => i) i) A ⟨gxA x A sp, c, m, k, ok, s, p, ln, i⟩ := fun x A sp c m k ok s p ln i => congrFun (congrFun (congrFun (congrFun (congrFun (congrFun (congrFun (congrFun (congrFun (congrFun (congrFun roundA_ev2 x) A) sp) c) m) k) ok) s) p) ln) i
/-- What is to be shown. -/
def Goal10 (r : Rg) (which idle line : Int) : Prop := ∃ (c : C2) (_ : Tryz.f10.body = some c.erase) (_ : ∀ w0 F, c.ok Tryz.prog env7 w0 F ro0 Tryz.f10.ntmps), ∃ v hp', (bodyF2 env7 10000 call7 ro0 Tryz.f10 c [regsA r, i64a which, i64a idle, i64a line] (startHp 2 1000000)).run = some (.ret v, hp') ∧ ∀ (ρ : Ren) x, VR ρ v x → x = .bool true
theorem five {P : Nat → Prop} (h0 : P 0) (h1 : P 1) (h2 : P 2) (h3 : P 3) (h4 : P 4) : ∀ j, j ≤ 4 → P j := by
  intro j hj
  have hc : j = 0 ∨ j = 1 ∨ j = 2 ∨ j = 3 ∨ j = 4 := by omega
  rcases hc with rfl | rfl | rfl | rfl | rfl <;> assumption
theorem case10_0 (r : Rg) (which idle line : Int) (hw : pickV which (13 : Nat) = (0 : Nat)) : Goal10 r which idle line := by
  have hq := runA (fstA (r := r) rfl (congrFun (congrFun fst0 (gA r)) (mA 118)))
  have hw0 := congrFun wnt0 (gA r)
  have hr : Rest (CC (gA r) 118) (gA r).A 1 513 (fun _ => 0) := ⟨hw0, fun _ => congrFun stl0 (gA r)⟩
  have hk : (CC (gA r) 118).want.k = 0 := (Prod.mk.inj hw0).1
  obtain ⟨e1, e2⟩ := goA (line := line) (pc := 513) hq.2.1 hk (five (congrFun go0_0 (gA r)) (congrFun go0_1 (gA r)) (congrFun go0_2 (gA r)) (congrFun go0_3 (gA r)) (congrFun go0_4 (gA r)))
  exact ⟨_, c2A_eq 0 0 1 513 (fun _ => 0), okA evA0, lawPath_run (congrFun (congrFun (congrFun (congrFun lA_0 r) which) idle) line) (by rw [restA hw hq hr, e1]) e2⟩
theorem case10_1 (r : Rg) (which idle line : Int) (hw : pickV which (13 : Nat) = (1 : Nat)) : Goal10 r which idle line := by
  have hq := runA (fstA (r := r) rfl (congrFun (congrFun fst1 (gA r)) (mA 16)))
  generalize at1 (mA 16) (gA r) = d at hq
  have hw0 := congrFun (congrFun wnt1 (gA r)) d
  have hr : Rest (CSt (gA r) d) (gA r).A 2 514 (fun _ => 0) := ⟨hw0, fun _ => congrFun (congrFun stl1 (gA r)) d⟩
  have hk : (CSt (gA r) d).want.k = 0 := (Prod.mk.inj hw0).1
  have h0 := congrFun (congrFun go1_0 (gA r)) d
  have h1 := congrFun (congrFun go1_1 (gA r)) d
  have h2 := congrFun (congrFun go1_2 (gA r)) d
  have h3 := congrFun (congrFun go1_3 (gA r)) d
  have h4 := congrFun (congrFun go1_4 (gA r)) d
  have hn : nxt (nxt (gA r).PC) = 514 := by show nxt (nxt 512) = 514; decide
  rw [hn] at h0 h1 h2 h3 h4
  generalize CSt (gA r) d = c at *
  obtain ⟨e1, e2⟩ := goA (line := line) (pc := 514) hq.2.1 hk (five h0 h1 h2 h3 h4)
  exact ⟨_, c2A_eq 1 1 2 514 (fun _ => 0), okA evA1, lawPath_run (congrFun (congrFun (congrFun (congrFun lA_1 r) which) idle) line) (by rw [restA hw hq hr, e1]) e2⟩
theorem case10_2 (r : Rg) (which idle line : Int) (hw : pickV which (13 : Nat) = (2 : Nat)) : Goal10 r which idle line := by
  have hq := runA (fstA (r := r) rfl (congrFun (congrFun fst2 (gA r)) (mA 211)))
  have hw0 := congrFun wnt2 (gA r)
  have hr : Rest (CC (gA r) 211) (gA r).A 3 513 (fun i => i) := ⟨hw0, fun j => congrFun (congrFun stl2 (gA r)) (j % 32)⟩
  have hk : (CC (gA r) 211).want.k = 0 := (Prod.mk.inj hw0).1
  have h3 : (CC (gA r) 211).regs.St = 3 := by have := hw0; simp only [Prod.mk.injEq] at this; exact this.2.2.2.1
  obtain ⟨e1, e2⟩ := lockA (line := line) hq.2.1 hk h3 (congrFun (congrFun stl2 (gA r)))
  exact ⟨_, c2A_eq 2 12 3 513 (fun i => i), okA evA2, lawPath_run (congrFun (congrFun (congrFun (congrFun lA_2 r) which) idle) line) (by rw [restA hw hq hr, e1]) e2⟩
theorem case10_3 (r : Rg) (which idle line : Int) (hw : pickV which (13 : Nat) = (3 : Nat)) : Goal10 r which idle line := by
  have hq := runA (fstA (r := r) rfl (congrFun (congrFun fst3 (gA r)) (mA 219)))
  have hw0 := congrFun wnt3 (gA r)
  have hr : Rest (CC (gA r) 219) (gA r).A 3 513 (fun i => i) := ⟨hw0, fun j => congrFun (congrFun stl3 (gA r)) (j % 32)⟩
  have hk : (CC (gA r) 219).want.k = 0 := (Prod.mk.inj hw0).1
  have h3 : (CC (gA r) 219).regs.St = 3 := by have := hw0; simp only [Prod.mk.injEq] at this; exact this.2.2.2.1
  obtain ⟨e1, e2⟩ := lockA (line := line) hq.2.1 hk h3 (congrFun (congrFun stl3 (gA r)))
  exact ⟨_, c2A_eq 2 12 3 513 (fun i => i), okA evA2, lawPath_run (congrFun (congrFun (congrFun (congrFun lA_3 r) which) idle) line) (by rw [restA hw hq hr, e1]) e2⟩
theorem case10_4 (r : Rg) (which idle line : Int) (hw : pickV which (13 : Nat) = (4 : Nat)) : Goal10 r which idle line := by
  have hq := runA (fstA (r := r) rfl (congrFun (congrFun fst4 (gA r)) (mA 221)))
  have hw0 := congrFun wnt4 (gA r)
  have hr : Rest (CC (gA r) 221) (gA r).A 3 513 (fun i => i) := ⟨hw0, fun j => congrFun (congrFun stl4 (gA r)) (j % 32)⟩
  have hk : (CC (gA r) 221).want.k = 0 := (Prod.mk.inj hw0).1
  have h3 : (CC (gA r) 221).regs.St = 3 := by have := hw0; simp only [Prod.mk.injEq] at this; exact this.2.2.2.1
  obtain ⟨e1, e2⟩ := lockA (line := line) hq.2.1 hk h3 (congrFun (congrFun stl4 (gA r)))
  exact ⟨_, c2A_eq 2 12 3 513 (fun i => i), okA evA2, lawPath_run (congrFun (congrFun (congrFun (congrFun lA_4 r) which) idle) line) (by rw [restA hw hq hr, e1]) e2⟩
theorem case10_5 (r : Rg) (which idle line : Int) (hw : pickV which (13 : Nat) = (5 : Nat)) : Goal10 r which idle line := by
  have hq := runA (fstA (r := r) rfl (congrFun (congrFun fst5 (gA r)) (mA 227)))
  have hw0 := congrFun wnt5 (gA r)
  have hr : Rest (CC (gA r) 227) (gA r).A 3 513 (fun i => i) := ⟨hw0, fun j => congrFun (congrFun stl5 (gA r)) (j % 32)⟩
  have hk : (CC (gA r) 227).want.k = 0 := (Prod.mk.inj hw0).1
  have h3 : (CC (gA r) 227).regs.St = 3 := by have := hw0; simp only [Prod.mk.injEq] at this; exact this.2.2.2.1
  obtain ⟨e1, e2⟩ := lockA (line := line) hq.2.1 hk h3 (congrFun (congrFun stl5 (gA r)))
  exact ⟨_, c2A_eq 2 12 3 513 (fun i => i), okA evA2, lawPath_run (congrFun (congrFun (congrFun (congrFun lA_5 r) which) idle) line) (by rw [restA hw hq hr, e1]) e2⟩
theorem case10_6 (r : Rg) (which idle line : Int) (hw : pickV which (13 : Nat) = (6 : Nat)) : Goal10 r which idle line := by
  have hq := runA (fstA (r := r) rfl (congrFun (congrFun fst6 (gA r)) (mA 228)))
  have hw0 := congrFun wnt6 (gA r)
  have hr : Rest (CC (gA r) 228) (gA r).A 3 513 (fun i => i) := ⟨hw0, fun j => congrFun (congrFun stl6 (gA r)) (j % 32)⟩
  have hk : (CC (gA r) 228).want.k = 0 := (Prod.mk.inj hw0).1
  have h3 : (CC (gA r) 228).regs.St = 3 := by have := hw0; simp only [Prod.mk.injEq] at this; exact this.2.2.2.1
  obtain ⟨e1, e2⟩ := lockA (line := line) hq.2.1 hk h3 (congrFun (congrFun stl6 (gA r)))
  exact ⟨_, c2A_eq 2 12 3 513 (fun i => i), okA evA2, lawPath_run (congrFun (congrFun (congrFun (congrFun lA_6 r) which) idle) line) (by rw [restA hw hq hr, e1]) e2⟩
theorem case10_7 (r : Rg) (which idle line : Int) (hw : pickV which (13 : Nat) = (7 : Nat)) : Goal10 r which idle line := by
  have hq := runA (fstA (r := r) rfl (congrFun (congrFun fst7 (gA r)) (mA 235)))
  have hw0 := congrFun wnt7 (gA r)
  have hr : Rest (CC (gA r) 235) (gA r).A 3 513 (fun i => i) := ⟨hw0, fun j => congrFun (congrFun stl7 (gA r)) (j % 32)⟩
  have hk : (CC (gA r) 235).want.k = 0 := (Prod.mk.inj hw0).1
  have h3 : (CC (gA r) 235).regs.St = 3 := by have := hw0; simp only [Prod.mk.injEq] at this; exact this.2.2.2.1
  obtain ⟨e1, e2⟩ := lockA (line := line) hq.2.1 hk h3 (congrFun (congrFun stl7 (gA r)))
  exact ⟨_, c2A_eq 2 12 3 513 (fun i => i), okA evA2, lawPath_run (congrFun (congrFun (congrFun (congrFun lA_7 r) which) idle) line) (by rw [restA hw hq hr, e1]) e2⟩
theorem case10_8 (r : Rg) (which idle line : Int) (hw : pickV which (13 : Nat) = (8 : Nat)) : Goal10 r which idle line := by
  have hq := runA (fstA (r := r) rfl (congrFun (congrFun fst8 (gA r)) (mA 236)))
  have hw0 := congrFun wnt8 (gA r)
  have hr : Rest (CC (gA r) 236) (gA r).A 3 513 (fun i => i) := ⟨hw0, fun j => congrFun (congrFun stl8 (gA r)) (j % 32)⟩
  have hk : (CC (gA r) 236).want.k = 0 := (Prod.mk.inj hw0).1
  have h3 : (CC (gA r) 236).regs.St = 3 := by have := hw0; simp only [Prod.mk.injEq] at this; exact this.2.2.2.1
  obtain ⟨e1, e2⟩ := lockA (line := line) hq.2.1 hk h3 (congrFun (congrFun stl8 (gA r)))
  exact ⟨_, c2A_eq 2 12 3 513 (fun i => i), okA evA2, lawPath_run (congrFun (congrFun (congrFun (congrFun lA_8 r) which) idle) line) (by rw [restA hw hq hr, e1]) e2⟩
theorem case10_9 (r : Rg) (which idle line : Int) (hw : pickV which (13 : Nat) = (9 : Nat)) : Goal10 r which idle line := by
  have hq := runA (fstA (r := r) rfl (congrFun (congrFun fst9 (gA r)) (mA 237)))
  have hw0 := congrFun wnt9 (gA r)
  have hr : Rest (CC (gA r) 237) (gA r).A 3 513 (fun i => i) := ⟨hw0, fun j => congrFun (congrFun stl9 (gA r)) (j % 32)⟩
  have hk : (CC (gA r) 237).want.k = 0 := (Prod.mk.inj hw0).1
  have h3 : (CC (gA r) 237).regs.St = 3 := by have := hw0; simp only [Prod.mk.injEq] at this; exact this.2.2.2.1
  obtain ⟨e1, e2⟩ := lockA (line := line) hq.2.1 hk h3 (congrFun (congrFun stl9 (gA r)))
  exact ⟨_, c2A_eq 2 12 3 513 (fun i => i), okA evA2, lawPath_run (congrFun (congrFun (congrFun (congrFun lA_9 r) which) idle) line) (by rw [restA hw hq hr, e1]) e2⟩
theorem case10_10 (r : Rg) (which idle line : Int) (hw : pickV which (13 : Nat) = (10 : Nat)) : Goal10 r which idle line := by
  have hq := runA (fstA (r := r) rfl (congrFun (congrFun fst10 (gA r)) (mA 244)))
  have hw0 := congrFun wnt10 (gA r)
  have hr : Rest (CC (gA r) 244) (gA r).A 3 513 (fun i => i) := ⟨hw0, fun j => congrFun (congrFun stl10 (gA r)) (j % 32)⟩
  have hk : (CC (gA r) 244).want.k = 0 := (Prod.mk.inj hw0).1
  have h3 : (CC (gA r) 244).regs.St = 3 := by have := hw0; simp only [Prod.mk.injEq] at this; exact this.2.2.2.1
  obtain ⟨e1, e2⟩ := lockA (line := line) hq.2.1 hk h3 (congrFun (congrFun stl10 (gA r)))
  exact ⟨_, c2A_eq 2 12 3 513 (fun i => i), okA evA2, lawPath_run (congrFun (congrFun (congrFun (congrFun lA_10 r) which) idle) line) (by rw [restA hw hq hr, e1]) e2⟩
theorem case10_11 (r : Rg) (which idle line : Int) (hw : pickV which (13 : Nat) = (11 : Nat)) : Goal10 r which idle line := by
  have hq := runA (fstA (r := r) rfl (congrFun (congrFun fst11 (gA r)) (mA 252)))
  have hw0 := congrFun wnt11 (gA r)
  have hr : Rest (CC (gA r) 252) (gA r).A 3 513 (fun i => i) := ⟨hw0, fun j => congrFun (congrFun stl11 (gA r)) (j % 32)⟩
  have hk : (CC (gA r) 252).want.k = 0 := (Prod.mk.inj hw0).1
  have h3 : (CC (gA r) 252).regs.St = 3 := by have := hw0; simp only [Prod.mk.injEq] at this; exact this.2.2.2.1
  obtain ⟨e1, e2⟩ := lockA (line := line) hq.2.1 hk h3 (congrFun (congrFun stl11 (gA r)))
  exact ⟨_, c2A_eq 2 12 3 513 (fun i => i), okA evA2, lawPath_run (congrFun (congrFun (congrFun (congrFun lA_11 r) which) idle) line) (by rw [restA hw hq hr, e1]) e2⟩
theorem case10_12 (r : Rg) (which idle line : Int) (hw : pickV which (13 : Nat) = (12 : Nat)) : Goal10 r which idle line := by
  have hq := runA (fstA (r := r) rfl (congrFun (congrFun fst12 (gA r)) (mA 253)))
  have hw0 := congrFun wnt12 (gA r)
  have hr : Rest (CC (gA r) 253) (gA r).A 3 513 (fun i => i) := ⟨hw0, fun j => congrFun (congrFun stl12 (gA r)) (j % 32)⟩
  have hk : (CC (gA r) 253).want.k = 0 := (Prod.mk.inj hw0).1
  have h3 : (CC (gA r) 253).regs.St = 3 := by have := hw0; simp only [Prod.mk.injEq] at this; exact this.2.2.2.1
  obtain ⟨e1, e2⟩ := lockA (line := line) hq.2.1 hk h3 (congrFun (congrFun stl12 (gA r)))
  exact ⟨_, c2A_eq 2 12 3 513 (fun i => i), okA evA2, lawPath_run (congrFun (congrFun (congrFun (congrFun lA_12 r) which) idle) line) (by rw [restA hw hq hr, e1]) e2⟩
theorem cpuRests_true (r : Rg) (which idle line : Int) : Goal10 r which idle line := by
  have hp := pickV_in (c := which) (n := ((13 : Nat) : Int)) (by decide)
  obtain ⟨k, hk⟩ : ∃ k : Nat, pickV which (13 : Nat) = k := ⟨(pickV which (13 : Nat)).toNat, by omega⟩
  have hc : k = 0 ∨ k = 1 ∨ k = 2 ∨ k = 3 ∨ k = 4 ∨ k = 5 ∨ k = 6 ∨ k = 7 ∨ k = 8 ∨ k = 9 ∨ k = 10 ∨ k = 11 ∨ k = 12 := by omega
  rcases hc with rfl | rfl | rfl | rfl | rfl | rfl | rfl | rfl | rfl | rfl | rfl | rfl | rfl
  · exact case10_0 r which idle line hk
  · exact case10_1 r which idle line hk
  · exact case10_2 r which idle line hk
  · exact case10_3 r which idle line hk
  · exact case10_4 r which idle line hk
  · exact case10_5 r which idle line hk
  · exact case10_6 r which idle line hk
  · exact case10_7 r which idle line hk
  · exact case10_8 r which idle line hk
  · exact case10_9 r which idle line hk
  · exact case10_10 r which idle line hk
  · exact case10_11 r which idle line hk
  · exact case10_12 r which idle line hk
end Go.Proofs.YtmlfmkebljdoiaaGreatDoor
