/- Own text: CpuRests: its loop. -/
import Derived.Test.YtmlfmkebljdoiaaGreatDoorL9
namespace Go.Proofs.YtmlfmkebljdoiaaGreatDoor
open Go.Ev Go.Ev.Tr Go.Proofs
set_option maxRecDepth 1000000
noncomputable def c10 : Code := bodyOf Tryz.f10
noncomputable def R18 : Code := sL (sL (sRn 14 c10))
noncomputable def B10 : Code := sR (sL (sRn 14 c10))
noncomputable def LB10 : Code := lL (bL B10)
noncomputable def R31 : Code := sL (sR (sRn 14 c10))
theorem B10_eq : B10 = .block 0 (.loop (C2.code LB10).erase) := by kernel_rfl
def sp10 (klo khi st pc : Int) : LSpec := { ts := [(3, i64S), (9, .ptr 5), (10, .int .i64 klo khi), (12, .ptr 8), (13, .row 21 1 65536), (15, .bool), (16, .int .i64 st st), (17, .int .i64 pc pc), (18, i64S)], bs := [(5, .same), (8, .cpu 8), (21, memS)], nxt := 82, lim := 1000000 }
structure RA where
  B : Blk
  c : Cpu
  m : Mem
  k : Int
  ok : Bool
  st : Int
  pc : Int
  ln : Int
  i : Int
def cnA (klo khi st pc : Int) (s : RA) : St := ⟨(((((((((Tr.lf.set 18 (some (vi64 s.i))).set 17 (some (.int .i64 ⟨s.pc, pc, pc⟩))).set 16 (some (.int .i64 ⟨s.st, st, st⟩))).set 15 (some (.sbool s.ok))).set 13 (some (rowV 21))).set 12 (some (.ptr 8 (I.lit 0)))).set 10 (some (.int .i64 ⟨s.k, klo, khi⟩))).set 9 (some (.ptr 5 (I.lit 0)))).set 3 (some (vi64 s.ln))), [],
  ⟨((Tr.lf.set 21 (some (memB s.m))).set 8 (some (.cells (enc 8 s.c)))).set 5 (some s.B), 82, 1000000⟩⟩
def parA (st : St) : RA := ⟨blkAt st.hp.m 5, cpuOf (csOf (blkAt st.hp.m 8)), fnOf (blkAt st.hp.m 21), nOf (tmpV st.tmps 10), bOf (tmpV st.tmps 15), nOf (tmpV st.tmps 16), nOf (tmpV st.tmps 17), nOf (tmpV st.tmps 3), nOf (tmpV st.tmps 18)⟩
theorem parA_eq (klo khi st pc : Int) (s : St) : encSt (sp10 klo khi st pc) s = cnA klo khi st pc (parA s) := rfl
theorem cnA_canon (klo khi st pc : Int) (s : RA) : Canon (sp10 klo khi st pc) (cnA klo khi st pc s) := ⟨rfl, rfl, rfl, fun t => by
  simp only [cnA, Tr.get_set, sp10, inKeys, or_false]
  by_cases h2 : t = 5
  · simp [h2]
  · by_cases h3 : t = 8
    · simp [h3]
    · by_cases h4 : t = 21
      · simp [h4]
      · simp [h2, h3, h4, Tr.get]⟩
noncomputable def roundA (klo khi st pc : Int) (n : Int) (A : Int) (s : RA) : Option (X × St) := bif decide (0 ≤ s.i) then
    (bif !(s.c.want.k == 0) then some (X.ret, cnA klo khi st pc s) else bif !(s.c.want.a == 0) then some (X.ret, cnA klo khi st pc s) else bif !(s.c.want.d == 0) then some (X.ret, cnA klo khi st pc s) else
     bif !(s.c.regs.St == s.st) then some (X.ret, cnA klo khi st pc s) else bif !(s.c.regs.PC == s.pc) then some (X.ret, cnA klo khi st pc s) else bif !(s.c.regs.A == A) then some (X.ret, cnA klo khi st pc s) else
     bif okC s.c then (bif !((tickM s.c (cycD s.c s.m) (n % 32)).2 == 0) then some (X.ret, cnA klo khi st pc ⟨s.B, cycleFn.out s.c s.m [n], cycleFn.mem s.c s.m [n], s.k, s.ok, s.st, s.pc, s.ln, s.i⟩) else
       some (X.normal, cnA klo khi st pc ⟨s.B, cycleFn.out s.c s.m [n], cycleFn.mem s.c s.m [n], s.k, s.ok, s.st, s.pc, s.ln, IntKind.i64.wrap (s.i - 1)⟩)) else none)
  else some (X.exit 0, cnA klo khi st pc s)
def gxA (x : GX) (A : Int) (sp : I) : Blk := .cells [.int .i64 ⟨A, 0, 255⟩, .int .i64 x.a1, .int .i64 x.a2, .int .i64 x.a3, .int .i64 x.a4, .int .i64 x.a5, .int .i64 x.a6, .int .i64 x.a7, .int .i64 sp, .int .i64 x.a9, .bool x.b, .int .i64 x.a11]
theorem roundA_ev0 : (fun x A sp c m k ok st pc ln i => roundT env7 ro0 call7 154 (sp10 0 0 1 513) (.code LB10) (cnA 0 0 1 513 ⟨gxA x A sp, c, m, k, ok, st, pc, ln, i⟩)) = (fun x A sp c m k ok st pc ln i => roundA 0 0 1 513 0 A ⟨gxA x A sp, c, m, k, ok, st, pc, ln, i⟩) := by kernel_rfl
theorem roundA_ev1 : (fun x A sp c m k ok st pc ln i => roundT env7 ro0 call7 154 (sp10 1 1 2 514) (.code LB10) (cnA 1 1 2 514 ⟨gxA x A sp, c, m, k, ok, st, pc, ln, i⟩)) = (fun x A sp c m k ok st pc ln i => roundA 1 1 2 514 0 A ⟨gxA x A sp, c, m, k, ok, st, pc, ln, i⟩) := by kernel_rfl
theorem roundA_ev2 : (fun x A sp c m k ok st pc ln i => roundT env7 ro0 call7 154 (sp10 2 12 3 513) (.code LB10) (cnA 2 12 3 513 ⟨gxA x A sp, c, m, k, ok, st, pc, ln, i⟩)) = (fun x A sp c m k ok st pc ln i => roundA 2 12 3 513 i A ⟨gxA x A sp, c, m, k, ok, st, pc, ln, i⟩) := by kernel_rfl
/-- A processor that rests. -/
structure PA (nf : Int → Int) (s : RA) : Prop where
  B : ∃ x A sp, s.B = gxA x A sp ∧ s.c.regs.A = A
  lo : -1 ≤ s.i
  hi : s.i ≤ 39
  k : s.c.want.k = 0
  a : s.c.want.a = 0
  d : s.c.want.d = 0
  st : s.c.regs.St = s.st
  pc : s.c.regs.PC = s.pc
  ok : okC s.c = true
  t : ∀ j, 0 ≤ j → j ≤ 39 → tickM s.c 0 (nf j % 32) = (s.c, 0)
def nxA (s : RA) : RA := { s with i := -1 }
open Classical in
noncomputable def finA (nf : Int → Int) (s : RA) : Option RA := if PA nf s then some (nxA s) else none
theorem finA_nx {nf : Int → Int} (s r : RA) (h : finA nf s = some r) : r = nxA s := by
  unfold finA at h
  split at h
  · injection h with h; exact h.symm
  · cases h
theorem stepA {klo khi st pc : Int} {nf : Int → Int} (hev : ∀ x A sp c m k ok s p ln i, roundT env7 ro0 call7 154 (sp10 klo khi st pc) (.code LB10) (cnA klo khi st pc ⟨gxA x A sp, c, m, k, ok, s, p, ln, i⟩) = roundA klo khi st pc (nf i) A ⟨gxA x A sp, c, m, k, ok, s, p, ln, i⟩)
    (s r : RA) (h : finA nf s = some r) : (∃ s', roundT env7 ro0 call7 154 (sp10 klo khi st pc) (.code LB10) (cnA klo khi st pc s) = some (.normal, cnA klo khi st pc s') ∧ finA nf s' = some r ∧ (s'.i + 1).toNat < (s.i + 1).toNat) ∨ roundT env7 ro0 call7 154 (sp10 klo khi st pc) (.code LB10) (cnA klo khi st pc s) = some (.exit 0, cnA klo khi st pc r) := by
  unfold finA at h
  split at h <;> try contradiction
  rename_i hP
  injection h with h; subst h
  obtain ⟨B, c, m, k, ok, s, p, ln, i⟩ := s
  obtain ⟨⟨x, A, sp, rfl, hA⟩, lo, hi, hk, ha, hd, hst, hpc, hok, ht⟩ := hP
  simp only at hA lo hi hk ha hd hst hpc hok ht
  rw [hev x A sp c m k ok s p ln i]
  by_cases h0 : 0 ≤ i
  · have hD : cycD c m = 0 := by unfold cycD; rw [hk]; rfl
    have hM : cycleFn.mem c m [nf i] = m := by show cycMem c m = m; unfold cycMem; rw [hk]; rfl
    have hT := ht i h0 hi
    have hO : cycleFn.out c m [nf i] = c := by show (tickM c (cycD c m) (nf i % 32)).1 = c; rw [hD, hT]
    refine .inl ⟨⟨gxA x A sp, c, m, k, ok, s, p, ln, i - 1⟩, ?_, ?_, by simp only; omega⟩
    · unfold roundA
      simp only
      rw [decide_eq_true h0, hk, ha, hd, hst, hpc, hA, hok, hD, hT, hO, hM, wrap_small (by omega) (by omega)]
      simp only [BEq.rfl, Bool.not_true, cond_true, cond_false]
    · unfold finA
      rw [if_pos ⟨⟨x, A, sp, rfl, hA⟩, by simp only; omega, by simp only; omega, hk, ha, hd, hst, hpc, hok, ht⟩]
      rfl
  · have e : i = -1 := by omega
    subst e
    exact .inr rfl
theorem hookA {klo khi st pc : Int} {nf : Int → Int} (hev : ∀ x A sp c m k ok s p ln i, roundT env7 ro0 call7 154 (sp10 klo khi st pc) (.code LB10) (cnA klo khi st pc ⟨gxA x A sp, c, m, k, ok, s, p, ln, i⟩) = roundA klo khi st pc (nf i) A ⟨gxA x A sp, c, m, k, ok, s, p, ln, i⟩) :
    ∀ w0 F, HookOK Tryz.prog env7 w0 F ro0 154 B10 (loopG (sp10 klo khi st pc) parA (cnA klo khi st pc) (finA nf) nxA) := by
  rw [B10_eq]
  exact fun w0 F => loopG_ok finA_nx (loopF_ok env7OK call7OK (b := .code LB10) (id := 0) (fun _ _ => trivial) (cnA_canon klo khi st pc) (fun s _ => parA_eq klo khi st pc s) (μ := fun s => (s.i + 1).toNat) (stepA hev) w0 F)
noncomputable def c2A (klo khi st pc : Int) (nf : Int → Int) : C2 := pre 14 c10 (.seq (.seq (.hook R18 (termF 154 R18)) (.hook B10 (loopG (sp10 klo khi st pc) parA (cnA klo khi st pc) (finA nf) nxA))) (.seq (.hook R31 (termF 154 R31)) (.code (sR (sR (sRn 14 c10))))))
theorem c2A_eq (klo khi st pc : Int) (nf : Int → Int) : Tryz.f10.body = some (c2A klo khi st pc nf).erase := by
  have : (fun (a b c d : Int) (e : Int → Int) => some (c2A a b c d e).erase) = fun _ _ _ _ _ => Tryz.f10.body := by kernel_rfl
  exact (congrFun (congrFun (congrFun (congrFun (congrFun this klo) khi) st) pc) nf).symm
theorem okA {klo khi st pc : Int} {nf : Int → Int} (hev : ∀ x A sp c m k ok s p ln i, roundT env7 ro0 call7 154 (sp10 klo khi st pc) (.code LB10) (cnA klo khi st pc ⟨gxA x A sp, c, m, k, ok, s, p, ln, i⟩) = roundA klo khi st pc (nf i) A ⟨gxA x A sp, c, m, k, ok, s, p, ln, i⟩) :
    ∀ w0 F, (c2A klo khi st pc nf).ok Tryz.prog env7 w0 F ro0 Tryz.f10.ntmps := fun w0 F => ⟨trivial, trivial, trivial, trivial, trivial, trivial, trivial, trivial, trivial, trivial, trivial, trivial, trivial, trivial, ⟨termF_ok _ _ w0 F, hookA hev w0 F⟩, termF_ok _ _ w0 F, trivial⟩
noncomputable def lawA (klo khi st pc : Int) (nf : Int → Int) (r : Rg) (which idle line : Int) : T (AEnd × Hp) := bodyF2 env7 10000 call7 ro0 Tryz.f10 (c2A klo khi st pc nf) [regsA r, i64a which, i64a idle, i64a line] (startHp 2 1000000)
end Go.Proofs.YtmlfmkebljdoiaaGreatDoor
