/- Own text: CpuStack: its loop, and what is asked on its way. -/
import Derived.Test.YtmlfmkebljdoiaaGreatDoorLg
namespace Go.Proofs.YtmlfmkebljdoiaaGreatDoor
open Go.Ev Go.Ev.Tr Go.Proofs
set_option maxRecDepth 1000000
noncomputable def c5 : Code := bodyOf Tryz.f5
noncomputable def B5 : Code := sR (sL (sRn 10 c5))
noncomputable def LB5 : Code := lL (bL B5)
theorem B5_eq : B5 = .block 0 (.loop (C2.code LB5).erase) := by kernel_rfl
def sp5 : LSpec := { ts := [(3, .ptr 5), (5, .row 20 1 65536), (9, i64S)], bs := [(5, .same), (20, memS)], nxt := 183, lim := 1000000 }
structure R5 where
  B : Blk
  m : Mem
  i : Int
def cn5 (s : R5) : St := ⟨((Tr.lf.set 9 (some (vi64 s.i))).set 5 (some (rowV 20))).set 3 (some (.ptr 5 (I.lit 0))), [], ⟨(Tr.lf.set 20 (some (memB s.m))).set 5 (some s.B), 183, 1000000⟩⟩
def par5 (st : St) : R5 := ⟨blkAt st.hp.m 5, fnOf (blkAt st.hp.m 20), nOf (tmpV st.tmps 9)⟩
theorem cn5_canon (s : R5) : Canon sp5 (cn5 s) := ⟨rfl, rfl, rfl, fun t => by
  simp only [cn5, Tr.get_set, sp5, inKeys, or_false]
  by_cases h2 : t = 5
  · simp [h2]
  · by_cases h3 : t = 20
    · simp [h3]
    · simp [h2, h3, Tr.get]⟩
theorem par5_eq (st : St) : encSt sp5 st = cn5 (par5 st) := rfl
def below5 (sp i : Int) : Int := IntKind.i64.wrap (sp - i)
noncomputable def next5 (s : R5) : Option (X × St) := some (X.normal, cn5 ⟨s.B, s.m, IntKind.i64.wrap (s.i + 1)⟩)
noncomputable def out5 (s : R5) : Option (X × St) := some (X.ret, cn5 s)
noncomputable def deep5 (sp : Int) (s : R5) : Option (X × St) := bif decide (below5 sp s.i < 1) then out5 s else (bif decide (8 < below5 sp s.i) then out5 s else next5 s)
noncomputable def round5 (sp : Int) (s : R5) : Option (X × St) := bif decide (s.i < 65536) then
    (bif decide (0 ≤ s.i ∧ s.i < 65536) then
      (bif !(s.m s.i.toNat == 0) then (bif decide (s.i < 512) then deep5 sp s else (bif decide (519 < s.i) then deep5 sp s else next5 s)) else next5 s)
    else none)
  else some (X.exit 0, cn5 s)
theorem round5_ev0 : (fun x sp m i => roundT env7 ro0 call7 167 sp5 (.code LB5) (cn5 ⟨gxB x ⟨sp, 0, 65535⟩, m, i⟩)) = (fun x sp m i => round5 sp ⟨gxB x ⟨sp, 0, 65535⟩, m, i⟩) := by kernel_rfl
theorem round5_ev1 : (fun x sp m i => roundT env7 ro0 call7 167 sp5 (.code LB5) (cn5 ⟨gxB x ⟨sp, 1024, 66559⟩, m, i⟩)) = (fun x sp m i => round5 sp ⟨gxB x ⟨sp, 1024, 66559⟩, m, i⟩) := by kernel_rfl
/-- What is to hold at a place. -/
def at5 (m : Mem) (sp i : Int) : Prop := m i.toNat = 0 ∨ (512 ≤ i ∧ i ≤ 519) ∨ (1 ≤ sp - i ∧ sp - i ≤ 8)
def P5 (s : R5) : Prop := 0 ≤ s.i ∧ s.i ≤ 65536 ∧ ∃ x sp, (0 ≤ sp ∧ sp ≤ 70000) ∧ (s.B = gxB x ⟨sp, 0, 65535⟩ ∨ s.B = gxB x ⟨sp, 1024, 66559⟩) ∧ ∀ j, s.i ≤ j → j < 65536 → at5 s.m sp j
open Classical in
noncomputable def fin5 (s : R5) : Option R5 := if P5 s then some ⟨s.B, s.m, 65536⟩ else none
theorem below5_eq {sp i : Int} (h0 : 0 ≤ sp) (h1 : sp ≤ 70000) (h2 : 0 ≤ i) (h3 : i ≤ 65536) : below5 sp i = sp - i := wrap_small (by omega) (by omega)
theorem round5_next {sp : Int} {s : R5} (h0 : 0 ≤ sp) (h1 : sp ≤ 70000) (h2 : 0 ≤ s.i) (h3 : s.i < 65536) (h : at5 s.m sp s.i) : round5 sp s = next5 s := by
  have hb := below5_eq h0 h1 h2 (by omega : s.i ≤ 65536)
  have hdeep : (1 ≤ sp - s.i ∧ sp - s.i ≤ 8) → deep5 sp s = next5 s := fun q => by
    unfold deep5
    rw [hb, decide_eq_false (by omega), decide_eq_false (by omega)]; rfl
  unfold round5
  rw [decide_eq_true h3, decide_eq_true (show 0 ≤ s.i ∧ s.i < 65536 from ⟨h2, h3⟩)]
  simp only [cond_true]
  rcases h with h | h | h
  · rw [h]; rfl
  · cases hz : !(s.m s.i.toNat == 0) with
    | false => rfl
    | true =>
      simp only [cond_true]
      rw [decide_eq_false (by omega), decide_eq_false (by omega)]; rfl
  · rw [hdeep h]
    cases hz : !(s.m s.i.toNat == 0) <;> cases h8 : decide (s.i < 512) <;> cases h9 : decide (519 < s.i) <;> rfl
theorem step5 (s r : R5) (h : fin5 s = some r) : (∃ s', roundT env7 ro0 call7 167 sp5 (.code LB5) (cn5 s) = some (.normal, cn5 s') ∧ fin5 s' = some r ∧ (65536 - s'.i).toNat < (65536 - s.i).toNat) ∨ roundT env7 ro0 call7 167 sp5 (.code LB5) (cn5 s) = some (.exit 0, cn5 r) := by
  unfold fin5 at h
  split at h <;> try contradiction
  rename_i hP
  injection h with h; subst h
  obtain ⟨p0, p1, x, sp, ⟨q0, q1⟩, hB, hall⟩ := hP
  obtain ⟨B, m, i⟩ := s
  simp only at p0 p1 hB hall
  have hev : roundT env7 ro0 call7 167 sp5 (.code LB5) (cn5 ⟨B, m, i⟩) = round5 sp ⟨B, m, i⟩ := by
    rcases hB with rfl | rfl
    · exact congrFun (congrFun (congrFun (congrFun round5_ev0 x) sp) m) i
    · exact congrFun (congrFun (congrFun (congrFun round5_ev1 x) sp) m) i
  rw [hev]
  by_cases hi : i < 65536
  · refine .inl ⟨⟨B, m, i + 1⟩, ?_, ?_, ?_⟩
    · rw [round5_next (s := ⟨B, m, i⟩) q0 q1 p0 hi (hall i (Int.le_refl _) hi)]
      unfold next5
      simp only
      rw [wrap_small (by omega) (by omega)]
    · unfold fin5
      rw [if_pos ⟨by simp only; omega, by simp only; omega, x, sp, ⟨q0, q1⟩, hB, fun j h1 h2 => hall j (by simp only at h1; omega) h2⟩]
    · simp only; omega
  · have e : i = 65536 := by omega
    subst e
    refine .inr ?_
    unfold round5
    rw [decide_eq_false (by simp)]; rfl
theorem hook5 : ∀ w0 F, HookOK Tryz.prog env7 w0 F ro0 167 B5 (loopF sp5 par5 cn5 fin5) := by
  rw [B5_eq]
  exact loopF_ok env7OK call7OK (b := .code LB5) (id := 0) (fun _ _ => trivial) cn5_canon (fun st _ => par5_eq st) (μ := fun s => (65536 - s.i).toNat) step5
def nx5 (s : R5) : R5 := ⟨s.B, s.m, 65536⟩
theorem fin5_nx (s r : R5) (h : fin5 s = some r) : r = nx5 s := by
  unfold fin5 at h
  split at h
  · injection h with h; exact h.symm
  · cases h
noncomputable def c2_5 : C2 := pre 10 c5 (.seq (.seq (.code (sL (sL (sRn 10 c5)))) (.hook B5 (loopG sp5 par5 cn5 fin5 nx5))) (.code (sR (sRn 10 c5))))
theorem c2_5_eq : Tryz.f5.body = some c2_5.erase := by kernel_rfl
noncomputable def law5 (r : Rg) : T (AEnd × Hp) := bodyF2 env7 10000 call7 ro0 Tryz.f5 c2_5 [regsA r] (startHp 2 1000000)
theorem ok5 : ∀ w0 F, c2_5.ok Tryz.prog env7 w0 F ro0 Tryz.f5.ntmps := fun w0 F => ⟨trivial, trivial, trivial, trivial, trivial, trivial, trivial, trivial, trivial, trivial, ⟨trivial, loopG_ok fin5_nx (hook5 w0 F)⟩, trivial⟩
/-! ### the way -/
def g5 (r : Rg) : Rg := { bndR r with PC := 512 }
def h5 (r : Rg) : Rg := { bndR r with PC := 512, SP := (bndR r).SP + 1024 }
def eqRs (g h : Rg) : Bool := (g.A == h.A && (g.F == h.F && (g.B == h.B && (g.C == h.C && (g.D == h.D && (g.E == h.E && (g.H == h.H && (g.L == h.L && (g.SP == h.SP && (g.IME == h.IME))))))))))
def startS (g : Rg) : List Bool := [fOk g, !(eqRs g g)]
def m5 : Mem := memOf [(519, 241), (518, 225), (517, 209), (516, 193), (515, 245), (514, 229), (513, 213), (512, 197)]
noncomputable def q5 (g : Rg) : R20 := runsR (ofR (bndR g)) m5 8
noncomputable def cmp5 (g t : Rg) : List Bool := [!(t.SP == g.SP), !(t.B == g.A), !(t.C == g.F), !(t.D == g.H), !(t.E == g.L), !(t.H == g.D), !(t.L == g.E), !(t.A == g.B), !(t.F == g.C / 16 * 16)]
def x5 (g : Rg) : GX := ⟨⟨g.A, 0, 255⟩, ⟨g.F, 0, 240⟩, ⟨g.B, 0, 255⟩, ⟨g.C, 0, 255⟩, ⟨g.D, 0, 255⟩, ⟨g.E, 0, 255⟩, ⟨g.H, 0, 255⟩, ⟨g.L, 0, 255⟩, ⟨512, 512, 512⟩, g.IME, ⟨0, 0, 0⟩⟩
def in5 (a : Int) : Bool := decide (0 ≤ a ∧ a < 65536)
noncomputable def conds5 (g : Rg) (lo hi : Int) : List Bool := startS (bndR g) ++ ([(fin20 (s20 (ofR (bndR g)) m5 8)).isSome] ++ (cmp5 g (q5 g).c.regs ++ ([(fin5 ⟨gxB (x5 g) ⟨g.SP, lo, hi⟩, (q5 g).m, 0⟩).isSome] ++
  [in5 (g.SP - 1), (q5 g).m (g.SP - 1).toNat == g.B, in5 (g.SP - 2), (q5 g).m (g.SP - 2).toNat == g.C, in5 (g.SP - 8)])))
noncomputable def last5 (g : Rg) : Bool := (q5 g).m (g.SP - 8).toNat == g.F
def dirs5 : List Bool := [true, false, true, false, false, false, false, false, false, false, false, false, true, true, true, true, true, true]
theorem l5_0 : (fun r => lawPath (false :: dirs5) (law5 r)) = (fun r => some (decide ((bndR r).SP < 1024) :: conds5 (g5 r) 0 65535, some (last5 (g5 r)))) := by kernel_rfl
theorem l5_1 : (fun r => lawPath (true :: dirs5) (law5 r)) = (fun r => some (decide ((bndR r).SP < 1024) :: conds5 (h5 r) 1024 66559, some (last5 (h5 r)))) := by kernel_rfl
end Go.Proofs.YtmlfmkebljdoiaaGreatDoor
