/- Own text: CpuJumps: the law. -/
import Derived.Test.YtmlfmkebljdoiaaGreatDoorL7
import Derived.Test.YtmlfmkebljdoiaaGreatDoorJm
namespace Go.Proofs.YtmlfmkebljdoiaaGreatDoor
open Go.Ev Go.Ev.Tr Go.Proofs
set_option maxRecDepth 1000000
/-- Registers within their bounds, of a processor that runs. -/
structure GoodR (g : Rg) : Prop where
  inr : InR g
  f16 : g.F % 16 = 0
  st : g.St = 0
theorem good_bnd (r : Rg) : GoodR (bndR r) := ⟨bnd_in r, bnd_f16 r, rfl⟩
theorem GoodR.id {g : Rg} (h : GoodR g) : bndR g = g := bnd_id h.inr h.f16 h.st
theorem GoodR.pc {g : Rg} (h : GoodR g) : pickV g.PC (65536 : Nat) = g.PC := pickV_id h.inr.hPC.1 (by have := h.inr.hPC.2; omega)
theorem GoodR.z {g : Rg} (h : GoodR g) : z g.IME g = g := z_id h.st
theorem GoodR.startP {g : Rg} (h : GoodR g) : startP (bndR g) = [true, false] := by
  rw [h.id]; unfold Proofs.YtmlfmkebljdoiaaGreatDoor.startP
  have h1 : fOk g = true := by unfold fOk; rw [h.f16]; rfl
  have h2 : eqRp g g = true := by simp [eqRp]
  rw [h1, h2]; rfl
theorem oneJ {g : Rg} (hg : GoodR g) {m m' : Mem} {k : Int} {g' : Rg} (h : instrM 7 0 (ofR g) m = some (k, ofR g', m')) : askJ g m = true ∧ tJ g m = g' := by
  obtain ⟨k1, k2⟩ := runsR_of (n := 1) (by omega) (show runM 1 (ofR g) m 0 = some (ofR g', m', _) by rw [run_step h]; simp only [runM]; rfl)
  unfold askJ tJ
  rw [hg.id]
  exact ⟨k1, by have := k2; rw [show ((1 : Nat) : Int) = 1 by rfl] at this; rw [this]; rfl⟩
theorem insZ {g g' : Rg} (hg : GoodR g) {m m' : Mem} {op k : Int} (hop : m (pk16 g.PC) = op) (hi : firstF (z g.IME g) m op = some (k, ofR g', m')) : instrM 7 0 (ofR g) m = some (k, ofR g', m') := by
  rw [hg.z] at hi; exact ins hop hi
section
variable {g : Rg} (hg : GoodR g)
include hg
theorem pkpc : pk16 g.PC = g.PC.toNat := pk16_id hg.inr.hPC.1 hg.inr.hPC.2
theorem adr_eq (k : Int) : adr g k = (g.PC + k) % 65536 := by unfold adr; rw [hg.pc]
theorem pk1 : pk16 (nxt g.PC) = ((g.PC + 1) % 65536).toNat := by
  have := hg.st
  exact pk16_id (nxt_in _).1 (nxt_in _).2
theorem pk2 : pk16 (nxt (nxt g.PC)) = ((g.PC + 2) % 65536).toNat := by
  have := hg.st
  rw [pk16_id (nxt_in _).1 (nxt_in _).2]
  congr 1
  unfold nxt; omega
theorem jr_mem (c : Nat) (e : Int) : mJr g c e (pk16 g.PC) = jrOp c ∧ at1 (mJr g c e) g = e := by
  have h1 := hg.inr.hPC
  unfold at1
  rw [pkpc hg, pk1 hg]
  unfold mJr
  simp only [memOf, adr_eq hg, hg.pc]
  constructor
  · rw [if_neg (by omega), if_pos (by omega)]
  · rw [if_pos (by omega)]
theorem jp_mem (c : Nat) (e : Int) : mJp g c e (pk16 g.PC) = jpOp c ∧ at1 (mJp g c e) g = e ∧ at2 (mJp g c e) g = g.B := by
  have h1 := hg.inr.hPC
  unfold at1 at2
  rw [pkpc hg, pk1 hg, pk2 hg]
  unfold mJp
  simp only [memOf, adr_eq hg, hg.pc]
  refine ⟨?_, ?_, ?_⟩
  · rw [if_neg (by omega), if_neg (by omega), if_pos (by omega)]
  · rw [if_neg (by omega), if_pos (by omega)]
  · rw [if_pos (by omega)]
theorem hl_mem : mHl g (pk16 g.PC) = 233 := by
  have h1 := hg.inr.hPC
  rw [pkpc hg]; unfold mHl
  simp only [memOf, hg.pc]
  rw [if_pos (by omega)]
theorem jrT_eq {e p : Int} (hp : p = (nxt (nxt g.PC) + IntKind.i8.wrap e) % 65536) : p = pickV (wantJr g e true + 65536) (65536 : Nat) := by
  have h1 := hg.inr.hPC
  have h2 := wrap_in .i8 e
  have h2 : -128 ≤ IntKind.i8.wrap e ∧ IntKind.i8.wrap e ≤ 127 := h2
  unfold wantJr pickV
  simp only
  rw [decide_eq_false (by omega)]
  simp only
  unfold nxt at hp; omega
theorem jrF_eq {e p : Int} (hp : p = nxt (nxt g.PC)) : p = pickV (wantJr g e false + 65536) (65536 : Nat) := by
  have h1 := hg.inr.hPC
  unfold wantJr pickV
  simp only
  rw [decide_eq_false (by omega)]
  simp only
  unfold nxt at hp; omega
/-- Out of what the jumps do, the law. -/
theorem allJ {cond e : Int} (he : InU8 e) (c : Nat) (h : Bool) (hv : pickV cond (5 : Nat) = c) (ha : asks c g = dask c h)
    (j1 : ∃ k g', instrM 7 0 (ofR g) (mJr g c e) = some (k, ofR g', mJr g c e) ∧ g'.PC = pickV (wantJr g e h + 65536) (65536 : Nat) ∧ g'.F = g.F)
    (j2 : ∃ k g', instrM 7 0 (ofR g) (mJp g c e) = some (k, ofR g', mJp g c e) ∧ g'.PC = wantJp g e h ∧ g'.F = g.F) : condsJ cond g e c h = dirsJ c h ∧ lastJ g = true := by
  obtain ⟨k1, g1, h1, p1, f1⟩ := j1
  obtain ⟨k2, g2, h2, p2, f2⟩ := j2
  obtain ⟨a1, t1⟩ := oneJ hg h1
  obtain ⟨a2, t2⟩ := oneJ hg h2
  have h3 := insZ hg (hl_mem hg) (congrFun (congrFun (i233 g.IME) g) (mHl g))
  obtain ⟨a3, t3⟩ := oneJ hg h3
  have q1 : (z g.IME { g with PC := hlM g }).PC = 256 * g.H + g.L := by
    show hlM g = _
    rw [hl_eq hg.inr]; omega
  constructor
  · unfold condsJ dirsJ
    have hpk : picks (pickV cond (5 : Nat)) c = dpick c := by
      unfold picks dpick
      rw [hv]
      refine List.map_congr_left fun j hj => ?_
      have hj := List.mem_range.1 hj
      by_cases e : j = c
      · subst e; simp
      · have : ((c : Int) == (j : Int)) = false := by simp; omega
        rw [this]
        cases hb : Nat.beq j c
        · rfl
        · exact absurd (Nat.eq_of_beq_eq_true hb) e
    rw [hpk, hg.startP, ha, a1, a2, a3, t1, t2, t3, p1, f1, p2, f2, q1]
    simp only [BEq.rfl, Bool.not_true]
  · unfold lastJ; rw [t3]; exact BEq.rfl
theorem wordJ {e : Int} (he : InU8 e) : orf (g.B * 256) e = wantJp g e true := by
  rw [orf_pair hg.inr.hB.1 he.1 he.2]
  show g.B * 256 + e = e + 256 * g.B
  omega
theorem nxt3 (e : Int) : nxt (nxt (nxt g.PC)) = wantJp g e false := by
  have := hg.st
  show _ = (g.PC + 3) % 65536
  unfold nxt; omega
theorem caseT0 {cond e : Int} (he : InU8 e) (hv : pickV cond (5 : Nat) = (0 : Nat)) (hh : holdsM 0 g.F = true) : condsJ cond g e 0 true = dirsJ 0 true ∧ lastJ g = true := by
  obtain ⟨m1, m2⟩ := jr_mem hg 0 e
  obtain ⟨m3, m4, m5⟩ := jp_mem hg 0 e
  refine allJ hg he 0 true hv (by show [holdsM 0 g.F] = [true]; rw [hh]) ⟨_, _, insZ hg m1 (jrT0 g.IME g (mJr g 0 e) hh), ?_, rfl⟩ ⟨_, _, insZ hg m3 (jpT0 g.IME g (mJp g 0 e) hh), ?_, rfl⟩
  · exact jrT_eq hg (by rw [m2]; rfl)
  · rw [m4, m5]; exact wordJ hg he
theorem caseF0 {cond e : Int} (he : InU8 e) (hv : pickV cond (5 : Nat) = (0 : Nat)) (hh : holdsM 0 g.F = false) : condsJ cond g e 0 false = dirsJ 0 false ∧ lastJ g = true := by
  obtain ⟨m1, m2⟩ := jr_mem hg 0 e
  obtain ⟨m3, m4, m5⟩ := jp_mem hg 0 e
  refine allJ hg he 0 false hv (by show [holdsM 0 g.F] = [false]; rw [hh]) ⟨_, _, insZ hg m1 (jrF0 g.IME g (mJr g 0 e) hh), ?_, rfl⟩ ⟨_, _, insZ hg m3 (jpF0 g.IME g (mJp g 0 e) hh), ?_, rfl⟩
  · exact jrF_eq hg rfl
  · exact nxt3 hg e
theorem caseT1 {cond e : Int} (he : InU8 e) (hv : pickV cond (5 : Nat) = (1 : Nat)) (hh : holdsM 1 g.F = true) : condsJ cond g e 1 true = dirsJ 1 true ∧ lastJ g = true := by
  obtain ⟨m1, m2⟩ := jr_mem hg 1 e
  obtain ⟨m3, m4, m5⟩ := jp_mem hg 1 e
  refine allJ hg he 1 true hv (by show [holdsM 1 g.F] = [true]; rw [hh]) ⟨_, _, insZ hg m1 (jrT1 g.IME g (mJr g 1 e) hh), ?_, rfl⟩ ⟨_, _, insZ hg m3 (jpT1 g.IME g (mJp g 1 e) hh), ?_, rfl⟩
  · exact jrT_eq hg (by rw [m2]; rfl)
  · rw [m4, m5]; exact wordJ hg he
theorem caseF1 {cond e : Int} (he : InU8 e) (hv : pickV cond (5 : Nat) = (1 : Nat)) (hh : holdsM 1 g.F = false) : condsJ cond g e 1 false = dirsJ 1 false ∧ lastJ g = true := by
  obtain ⟨m1, m2⟩ := jr_mem hg 1 e
  obtain ⟨m3, m4, m5⟩ := jp_mem hg 1 e
  refine allJ hg he 1 false hv (by show [holdsM 1 g.F] = [false]; rw [hh]) ⟨_, _, insZ hg m1 (jrF1 g.IME g (mJr g 1 e) hh), ?_, rfl⟩ ⟨_, _, insZ hg m3 (jpF1 g.IME g (mJp g 1 e) hh), ?_, rfl⟩
  · exact jrF_eq hg rfl
  · exact nxt3 hg e
theorem caseT2 {cond e : Int} (he : InU8 e) (hv : pickV cond (5 : Nat) = (2 : Nat)) (hh : holdsM 2 g.F = true) : condsJ cond g e 2 true = dirsJ 2 true ∧ lastJ g = true := by
  obtain ⟨m1, m2⟩ := jr_mem hg 2 e
  obtain ⟨m3, m4, m5⟩ := jp_mem hg 2 e
  refine allJ hg he 2 true hv (by show [holdsM 2 g.F] = [true]; rw [hh]) ⟨_, _, insZ hg m1 (jrT2 g.IME g (mJr g 2 e) hh), ?_, rfl⟩ ⟨_, _, insZ hg m3 (jpT2 g.IME g (mJp g 2 e) hh), ?_, rfl⟩
  · exact jrT_eq hg (by rw [m2]; rfl)
  · rw [m4, m5]; exact wordJ hg he
theorem caseF2 {cond e : Int} (he : InU8 e) (hv : pickV cond (5 : Nat) = (2 : Nat)) (hh : holdsM 2 g.F = false) : condsJ cond g e 2 false = dirsJ 2 false ∧ lastJ g = true := by
  obtain ⟨m1, m2⟩ := jr_mem hg 2 e
  obtain ⟨m3, m4, m5⟩ := jp_mem hg 2 e
  refine allJ hg he 2 false hv (by show [holdsM 2 g.F] = [false]; rw [hh]) ⟨_, _, insZ hg m1 (jrF2 g.IME g (mJr g 2 e) hh), ?_, rfl⟩ ⟨_, _, insZ hg m3 (jpF2 g.IME g (mJp g 2 e) hh), ?_, rfl⟩
  · exact jrF_eq hg rfl
  · exact nxt3 hg e
theorem caseT3 {cond e : Int} (he : InU8 e) (hv : pickV cond (5 : Nat) = (3 : Nat)) (hh : holdsM 3 g.F = true) : condsJ cond g e 3 true = dirsJ 3 true ∧ lastJ g = true := by
  obtain ⟨m1, m2⟩ := jr_mem hg 3 e
  obtain ⟨m3, m4, m5⟩ := jp_mem hg 3 e
  refine allJ hg he 3 true hv (by show [holdsM 3 g.F] = [true]; rw [hh]) ⟨_, _, insZ hg m1 (jrT3 g.IME g (mJr g 3 e) hh), ?_, rfl⟩ ⟨_, _, insZ hg m3 (jpT3 g.IME g (mJp g 3 e) hh), ?_, rfl⟩
  · exact jrT_eq hg (by rw [m2]; rfl)
  · rw [m4, m5]; exact wordJ hg he
theorem caseF3 {cond e : Int} (he : InU8 e) (hv : pickV cond (5 : Nat) = (3 : Nat)) (hh : holdsM 3 g.F = false) : condsJ cond g e 3 false = dirsJ 3 false ∧ lastJ g = true := by
  obtain ⟨m1, m2⟩ := jr_mem hg 3 e
  obtain ⟨m3, m4, m5⟩ := jp_mem hg 3 e
  refine allJ hg he 3 false hv (by show [holdsM 3 g.F] = [false]; rw [hh]) ⟨_, _, insZ hg m1 (jrF3 g.IME g (mJr g 3 e) hh), ?_, rfl⟩ ⟨_, _, insZ hg m3 (jpF3 g.IME g (mJp g 3 e) hh), ?_, rfl⟩
  · exact jrF_eq hg rfl
  · exact nxt3 hg e
theorem caseT4 {cond e : Int} (he : InU8 e) (hv : pickV cond (5 : Nat) = (4 : Nat)) : condsJ cond g e 4 true = dirsJ 4 true ∧ lastJ g = true := by
  obtain ⟨m1, m2⟩ := jr_mem hg 4 e
  obtain ⟨m3, m4, m5⟩ := jp_mem hg 4 e
  refine allJ hg he 4 true hv rfl ⟨_, _, insZ hg m1 (jrT4 g.IME g (mJr g 4 e)), ?_, rfl⟩ ⟨_, _, insZ hg m3 (jpT4 g.IME g (mJp g 4 e)), ?_, rfl⟩
  · exact jrT_eq hg (by rw [m2]; rfl)
  · rw [m4, m5]; exact wordJ hg he
end
theorem cpuJumps_true (r : Rg) (cond e : Int) (he : InU8 e) : ∃ v hp', (lawJ r cond e).run = some (.ret v, hp') ∧ ∀ (ρ : Ren) x, VR ρ v x → x = .bool true := by
  have hp := pickV_in (c := cond) (n := ((5 : Nat) : Int)) (by decide)
  have hg := good_bnd r
  obtain ⟨k, hk⟩ : ∃ k : Nat, pickV cond (5 : Nat) = k := ⟨(pickV cond (5 : Nat)).toNat, by omega⟩
  have hc : k = 0 ∨ k = 1 ∨ k = 2 ∨ k = 3 ∨ k = 4 := by omega
  rcases hc with rfl | rfl | rfl | rfl | rfl
  · cases hh : holdsM 0 (bndR r).F with
    | true =>
      obtain ⟨e1, e2⟩ := caseT0 hg he hk hh
      exact lawPath_run (congrFun (congrFun (congrFun lawJ_path0t r) cond) e) e1 e2
    | false =>
      obtain ⟨e1, e2⟩ := caseF0 hg he hk hh
      exact lawPath_run (congrFun (congrFun (congrFun lawJ_path0f r) cond) e) e1 e2
  · cases hh : holdsM 1 (bndR r).F with
    | true =>
      obtain ⟨e1, e2⟩ := caseT1 hg he hk hh
      exact lawPath_run (congrFun (congrFun (congrFun lawJ_path1t r) cond) e) e1 e2
    | false =>
      obtain ⟨e1, e2⟩ := caseF1 hg he hk hh
      exact lawPath_run (congrFun (congrFun (congrFun lawJ_path1f r) cond) e) e1 e2
  · cases hh : holdsM 2 (bndR r).F with
    | true =>
      obtain ⟨e1, e2⟩ := caseT2 hg he hk hh
      exact lawPath_run (congrFun (congrFun (congrFun lawJ_path2t r) cond) e) e1 e2
    | false =>
      obtain ⟨e1, e2⟩ := caseF2 hg he hk hh
      exact lawPath_run (congrFun (congrFun (congrFun lawJ_path2f r) cond) e) e1 e2
  · cases hh : holdsM 3 (bndR r).F with
    | true =>
      obtain ⟨e1, e2⟩ := caseT3 hg he hk hh
      exact lawPath_run (congrFun (congrFun (congrFun lawJ_path3t r) cond) e) e1 e2
    | false =>
      obtain ⟨e1, e2⟩ := caseF3 hg he hk hh
      exact lawPath_run (congrFun (congrFun (congrFun lawJ_path3f r) cond) e) e1 e2
  · obtain ⟨e1, e2⟩ := caseT4 hg he hk
    exact lawPath_run (congrFun (congrFun (congrFun lawJ_path4t r) cond) e) e1 e2
end Go.Proofs.YtmlfmkebljdoiaaGreatDoor
