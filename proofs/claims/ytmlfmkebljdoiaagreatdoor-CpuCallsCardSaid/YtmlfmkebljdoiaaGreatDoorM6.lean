/- Own text: CpuCalls: the law. -/
import Derived.Test.YtmlfmkebljdoiaaGreatDoorL6
import Derived.Test.YtmlfmkebljdoiaaGreatDoorKm
namespace Go.Proofs.YtmlfmkebljdoiaaGreatDoor
open Go.Ev Go.Ev.Tr Go.Proofs
set_option maxRecDepth 1000000
theorem ins0 {g g' : Rg} (hs : g.St = 0) {m m' : Mem} {op k : Int} (hop : m (pk16 g.PC) = op) (hi : firstF (z g.IME g) m op = some (k, ofR g', m')) : instrM 7 0 (ofR g) m = some (k, ofR g', m') := by
  rw [z_id hs] at hi; exact ins hop hi
theorem pk_nat {a : Int} {k : Nat} (h : a = k) (hk : k ≤ 65535) : pk16 a = k := by rw [pk16_id (by omega) (by omega)]; omega
/-- The code that lies in memory. -/
structure Lay (m : Mem) (op : Int) (k : Nat) : Prop where
  p0 : m 40000 = op
  p1 : m 40001 = 0
  p2 : m 40002 = 2
  p3 : m 40003 = 199 + 8 * (k : Int)
  q0 : m 512 = 60
  q1 : m 513 = 201
  r0 : m (8 * k) = 4
  r1 : m (8 * k + 1) = 201
theorem lay6 {op rst : Int} {k : Nat} (hk : k ≤ 7) (h : rs rst = k) : Lay (m6 op rst) op k := by
  have e : pickV (8 * (k : Int)) (65536 : Nat) = 8 * k := pickV_id (by omega) (by omega)
  constructor <;> simp only [m6, memOf, h, e] <;> (repeat (first | rw [if_pos (by omega)] | rw [if_neg (by omega)]))
/-- Where the stack may lie. -/
def okSP (s : Int) : Prop := 1024 ≤ s ∧ s ≤ 65535 ∧ (s ≤ 39990 ∨ 40040 ≤ s)
theorem psh_other {m : Mem} {s v : Int} (hs : okSP s) {j : Nat} (h1 : (j : Int) ≠ s - 1) (h2 : (j : Int) ≠ s - 2) : psh m s v j = m j := by
  obtain ⟨s0, s1, s2⟩ := hs
  unfold psh wrM
  rw [pk16_id (a := (s - 2) % 65536) (by omega) (by omega), pk16_id (a := (s - 1) % 65536) (by omega) (by omega)]
  rw [if_neg (by omega), if_neg (by omega)]
theorem psh_lay {m : Mem} {op s v : Int} {k : Nat} (hk : k ≤ 7) (hs : okSP s) (h : Lay m op k) : Lay (psh m s v) op k := by
  have h0 := hs
  obtain ⟨s0, s1, s2⟩ := h0
  constructor
  · rw [psh_other hs (by omega) (by omega)]; exact h.p0
  · rw [psh_other hs (by omega) (by omega)]; exact h.p1
  · rw [psh_other hs (by omega) (by omega)]; exact h.p2
  · rw [psh_other hs (by omega) (by omega)]; exact h.p3
  · rw [psh_other hs (by omega) (by omega)]; exact h.q0
  · rw [psh_other hs (by omega) (by omega)]; exact h.q1
  · rw [psh_other hs (by omega) (by omega)]; exact h.r0
  · rw [psh_other hs (by omega) (by omega)]; exact h.r1
/-- What was pushed comes back. -/
theorem psh_back {m : Mem} {s v : Int} (hs : okSP s) (hv0 : 0 ≤ v) (hv1 : v ≤ 65535) :
    orf (psh m s v (pk16 (((s - 2) % 65536 + 1) % 65536)) * 256) (psh m s v (pk16 ((s - 2) % 65536))) = v ∧ ((s - 2) % 65536 + 2) % 65536 = s := by
  obtain ⟨s0, s1, s2⟩ := hs
  have e1 : psh m s v (pk16 (((s - 2) % 65536 + 1) % 65536)) = v / 256 := by
    unfold psh wrM
    rw [pk16_id (a := ((s - 2) % 65536 + 1) % 65536) (by omega) (by omega), pk16_id (a := (s - 2) % 65536) (by omega) (by omega), pk16_id (a := (s - 1) % 65536) (by omega) (by omega)]
    rw [if_neg (by omega), if_pos (by omega)]
  have e2 : psh m s v (pk16 ((s - 2) % 65536)) = v % 256 := by
    unfold psh wrM
    rw [if_pos rfl]
  rw [e1, e2, orf_pair (by omega) (by omega) (by omega)]
  omega
/-! ### the instructions -/
/-- What a step leaves. -/
structure At (g : Rg) (a b s pc : Int) : Prop where
  st : g.St = 0
  A : g.A = a
  B : g.B = b
  S : g.SP = s
  P : g.PC = pc
theorem doInc60 {g : Rg} {m : Mem} {a b s pc pc' : Int} (h : At g a b s pc) (hop : m (pk16 pc) = 60) (hp : nxt pc = pc') : ∃ g' k, instrM 7 0 (ofR g) m = some (k, ofR g', m) ∧ At g' ((a + 1) % 256) b s pc' := by
  have hi := congrFun (congrFun (inc60 g.IME) g) m
  simp only [inc_eq] at hi
  generalize stepV g 0 g.A 1 = f at hi
  refine ⟨_, _, ins0 h.st (by rw [h.P]; exact hop) hi, ?_⟩
  constructor
  · rfl
  · simp only [z]; rw [h.A]
  · simp only [z]; exact h.B
  · exact h.S
  · simp only [z]; rw [h.P]; exact hp
theorem doInc4 {g : Rg} {m : Mem} {a b s pc pc' : Int} (h : At g a b s pc) (hop : m (pk16 pc) = 4) (hp : nxt pc = pc') : ∃ g' k, instrM 7 0 (ofR g) m = some (k, ofR g', m) ∧ At g' a ((b + 1) % 256) s pc' := by
  have hi := congrFun (congrFun (inc4 g.IME) g) m
  simp only [inc_eq] at hi
  generalize stepV g 0 g.B 1 = f at hi
  refine ⟨_, _, ins0 h.st (by rw [h.P]; exact hop) hi, ?_⟩
  constructor
  · rfl
  · simp only [z]; exact h.A
  · simp only [z]; rw [h.B]
  · exact h.S
  · simp only [z]; rw [h.P]; exact hp
theorem doRet {g : Rg} {m : Mem} {a b s v pc : Int} (hs : okSP s) (hv0 : 0 ≤ v) (hv1 : v ≤ 65535) (h : At g a b ((s - 2) % 65536) pc) (hop : psh m s v (pk16 pc) = 201) : ∃ g' k, instrM 7 0 (ofR g) (psh m s v) = some (k, ofR g', psh m s v) ∧ At g' a b s v := by
  obtain ⟨b1, b2⟩ := psh_back (m := m) hs hv0 hv1
  refine ⟨_, _, ins0 h.st (by rw [h.P]; exact hop) (congrFun (congrFun (ret g.IME) g) (psh m s v)), ?_⟩
  constructor
  · rfl
  · exact h.A
  · exact h.B
  · simp only [z]; rw [h.S]; exact b2
  · simp only [z]; rw [h.S]; exact b1
theorem doRst {g : Rg} {m : Mem} {a b s pc pc' : Int} (k : Nat) (hk : k ≤ 7) (h : At g a b s pc) (hop : m (pk16 pc) = 199 + 8 * (k : Int)) (hp : nxt pc = pc') : ∃ g' q, instrM 7 0 (ofR g) m = some (q, ofR g', psh m s pc') ∧ At g' a b ((s - 2) % 65536) (8 * (k : Int)) := by
  have e1 : g.SP = s := h.S
  have e2 : nxt g.PC = pc' := by rw [h.P]; exact hp
  have hc : k = 0 ∨ k = 1 ∨ k = 2 ∨ k = 3 ∨ k = 4 ∨ k = 5 ∨ k = 6 ∨ k = 7 := by omega
  subst e1; subst e2
  rcases hc with rfl | rfl | rfl | rfl | rfl | rfl | rfl | rfl
  · exact ⟨_, _, ins0 h.st (by rw [h.P]; exact hop) (congrFun (congrFun (rst0 g.IME) g) m), rfl, h.A, h.B, rfl, rfl⟩
  · exact ⟨_, _, ins0 h.st (by rw [h.P]; exact hop) (congrFun (congrFun (rst1 g.IME) g) m), rfl, h.A, h.B, rfl, rfl⟩
  · exact ⟨_, _, ins0 h.st (by rw [h.P]; exact hop) (congrFun (congrFun (rst2 g.IME) g) m), rfl, h.A, h.B, rfl, rfl⟩
  · exact ⟨_, _, ins0 h.st (by rw [h.P]; exact hop) (congrFun (congrFun (rst3 g.IME) g) m), rfl, h.A, h.B, rfl, rfl⟩
  · exact ⟨_, _, ins0 h.st (by rw [h.P]; exact hop) (congrFun (congrFun (rst4 g.IME) g) m), rfl, h.A, h.B, rfl, rfl⟩
  · exact ⟨_, _, ins0 h.st (by rw [h.P]; exact hop) (congrFun (congrFun (rst5 g.IME) g) m), rfl, h.A, h.B, rfl, rfl⟩
  · exact ⟨_, _, ins0 h.st (by rw [h.P]; exact hop) (congrFun (congrFun (rst6 g.IME) g) m), rfl, h.A, h.B, rfl, rfl⟩
  · exact ⟨_, _, ins0 h.st (by rw [h.P]; exact hop) (congrFun (congrFun (rst7 g.IME) g) m), rfl, h.A, h.B, rfl, rfl⟩
theorem doCall0 {g : Rg} {m : Mem} {a b s : Int} {k : Nat} (h : At g a b s 40000) (hl : Lay m 196 k) (hh : holdsM 0 g.F = true) : ∃ g' q, instrM 7 0 (ofR g) m = some (q, ofR g', psh m s 40003) ∧ At g' a b ((s - 2) % 65536) 512 := by
  have e1 : g.SP = s := h.S
  subst e1
  have a1 : at1 m g = 0 := by unfold at1; rw [h.P]; exact hl.p1
  have a2 : at2 m g = 2 := by unfold at2; rw [h.P]; exact hl.p2
  have hi := clT0 g.IME g m hh
  rw [a1, a2, h.P] at hi
  exact ⟨_, _, ins0 h.st (by rw [h.P]; exact hl.p0) hi, rfl, h.A, h.B, rfl, by show orf (2 * 256) 0 = 512; decide⟩
theorem doPass0 {g : Rg} {m : Mem} {a b s : Int} {k : Nat} (h : At g a b s 40000) (hl : Lay m 196 k) (hh : holdsM 0 g.F = false) : ∃ g' q, instrM 7 0 (ofR g) m = some (q, ofR g', m) ∧ At g' a b s 40003 := by
  have hi := clF0 g.IME g m hh
  rw [h.P] at hi
  exact ⟨_, _, ins0 h.st (by rw [h.P]; exact hl.p0) hi, rfl, h.A, h.B, h.S, by show nxt (nxt (nxt 40000)) = 40003; decide⟩
theorem doCall1 {g : Rg} {m : Mem} {a b s : Int} {k : Nat} (h : At g a b s 40000) (hl : Lay m 204 k) (hh : holdsM 1 g.F = true) : ∃ g' q, instrM 7 0 (ofR g) m = some (q, ofR g', psh m s 40003) ∧ At g' a b ((s - 2) % 65536) 512 := by
  have e1 : g.SP = s := h.S
  subst e1
  have a1 : at1 m g = 0 := by unfold at1; rw [h.P]; exact hl.p1
  have a2 : at2 m g = 2 := by unfold at2; rw [h.P]; exact hl.p2
  have hi := clT1 g.IME g m hh
  rw [a1, a2, h.P] at hi
  exact ⟨_, _, ins0 h.st (by rw [h.P]; exact hl.p0) hi, rfl, h.A, h.B, rfl, by show orf (2 * 256) 0 = 512; decide⟩
theorem doPass1 {g : Rg} {m : Mem} {a b s : Int} {k : Nat} (h : At g a b s 40000) (hl : Lay m 204 k) (hh : holdsM 1 g.F = false) : ∃ g' q, instrM 7 0 (ofR g) m = some (q, ofR g', m) ∧ At g' a b s 40003 := by
  have hi := clF1 g.IME g m hh
  rw [h.P] at hi
  exact ⟨_, _, ins0 h.st (by rw [h.P]; exact hl.p0) hi, rfl, h.A, h.B, h.S, by show nxt (nxt (nxt 40000)) = 40003; decide⟩
theorem doCall2 {g : Rg} {m : Mem} {a b s : Int} {k : Nat} (h : At g a b s 40000) (hl : Lay m 212 k) (hh : holdsM 2 g.F = true) : ∃ g' q, instrM 7 0 (ofR g) m = some (q, ofR g', psh m s 40003) ∧ At g' a b ((s - 2) % 65536) 512 := by
  have e1 : g.SP = s := h.S
  subst e1
  have a1 : at1 m g = 0 := by unfold at1; rw [h.P]; exact hl.p1
  have a2 : at2 m g = 2 := by unfold at2; rw [h.P]; exact hl.p2
  have hi := clT2 g.IME g m hh
  rw [a1, a2, h.P] at hi
  exact ⟨_, _, ins0 h.st (by rw [h.P]; exact hl.p0) hi, rfl, h.A, h.B, rfl, by show orf (2 * 256) 0 = 512; decide⟩
theorem doPass2 {g : Rg} {m : Mem} {a b s : Int} {k : Nat} (h : At g a b s 40000) (hl : Lay m 212 k) (hh : holdsM 2 g.F = false) : ∃ g' q, instrM 7 0 (ofR g) m = some (q, ofR g', m) ∧ At g' a b s 40003 := by
  have hi := clF2 g.IME g m hh
  rw [h.P] at hi
  exact ⟨_, _, ins0 h.st (by rw [h.P]; exact hl.p0) hi, rfl, h.A, h.B, h.S, by show nxt (nxt (nxt 40000)) = 40003; decide⟩
theorem doCall3 {g : Rg} {m : Mem} {a b s : Int} {k : Nat} (h : At g a b s 40000) (hl : Lay m 220 k) (hh : holdsM 3 g.F = true) : ∃ g' q, instrM 7 0 (ofR g) m = some (q, ofR g', psh m s 40003) ∧ At g' a b ((s - 2) % 65536) 512 := by
  have e1 : g.SP = s := h.S
  subst e1
  have a1 : at1 m g = 0 := by unfold at1; rw [h.P]; exact hl.p1
  have a2 : at2 m g = 2 := by unfold at2; rw [h.P]; exact hl.p2
  have hi := clT3 g.IME g m hh
  rw [a1, a2, h.P] at hi
  exact ⟨_, _, ins0 h.st (by rw [h.P]; exact hl.p0) hi, rfl, h.A, h.B, rfl, by show orf (2 * 256) 0 = 512; decide⟩
theorem doPass3 {g : Rg} {m : Mem} {a b s : Int} {k : Nat} (h : At g a b s 40000) (hl : Lay m 220 k) (hh : holdsM 3 g.F = false) : ∃ g' q, instrM 7 0 (ofR g) m = some (q, ofR g', m) ∧ At g' a b s 40003 := by
  have hi := clF3 g.IME g m hh
  rw [h.P] at hi
  exact ⟨_, _, ins0 h.st (by rw [h.P]; exact hl.p0) hi, rfl, h.A, h.B, h.S, by show nxt (nxt (nxt 40000)) = 40003; decide⟩
theorem doCall4 {g : Rg} {m : Mem} {a b s : Int} {k : Nat} (h : At g a b s 40000) (hl : Lay m 205 k) : ∃ g' q, instrM 7 0 (ofR g) m = some (q, ofR g', psh m s 40003) ∧ At g' a b ((s - 2) % 65536) 512 := by
  have e1 : g.SP = s := h.S
  subst e1
  have a1 : at1 m g = 0 := by unfold at1; rw [h.P]; exact hl.p1
  have a2 : at2 m g = 2 := by unfold at2; rw [h.P]; exact hl.p2
  have hi := clT4 g.IME g m
  rw [a1, a2, h.P] at hi
  exact ⟨_, _, ins0 h.st (by rw [h.P]; exact hl.p0) hi, rfl, h.A, h.B, rfl, by show orf (2 * 256) 0 = 512; decide⟩
/-- RST, and back. -/
theorem tail6 {g : Rg} {m : Mem} {a b s op all : Int} {k : Nat} (hk : k ≤ 7) (hs : okSP s) (hl : Lay m op k) (h : At g a b s 40003) : ∃ g' m' all', runM 3 (ofR g) m all = some (ofR g', m', all') ∧ At g' a ((b + 1) % 256) s 40004 := by
  obtain ⟨g1, q1, i1, h1⟩ := doRst (pc' := 40004) k hk h (by rw [show pk16 40003 = 40003 by decide]; exact hl.p3) (by decide)
  have hl1 := psh_lay (v := 40004) hk hs hl
  obtain ⟨g2, q2, i2, h2⟩ := doInc4 (pc' := 8 * (k : Int) + 1) h1 (by rw [pk_nat (k := 8 * k) (by omega) (by omega)]; exact hl1.r0) (by unfold nxt; omega)
  obtain ⟨g3, q3, i3, h3⟩ := doRet (m := m) (v := 40004) hs (by omega) (by omega) h2 (by rw [pk_nat (k := 8 * k + 1) (by omega) (by omega)]; exact hl1.r1)
  exact ⟨g3, _, _, by rw [run_step i1, run_step i2, run_step i3]; simp only [runM]; rfl, h3⟩
/-- A call, and back. -/
theorem head6 {g g1 : Rg} {m : Mem} {a b s op q : Int} {k : Nat} (hk : k ≤ 7) (hs : okSP s) (hl : Lay m op k) (i1 : instrM 7 0 (ofR g) m = some (q, ofR g1, psh m s 40003)) (h1 : At g1 a b ((s - 2) % 65536) 512) : ∃ g' m' all', runM 6 (ofR g) m 0 = some (ofR g', m', all') ∧ At g' ((a + 1) % 256) ((b + 1) % 256) s 40004 := by
  have hl1 := psh_lay (v := 40003) hk hs hl
  obtain ⟨g2, q2, i2, h2⟩ := doInc60 (pc' := 513) h1 (by rw [show pk16 512 = 512 by decide]; exact hl1.q0) (by decide)
  obtain ⟨g3, q3, i3, h3⟩ := doRet (m := m) (v := 40003) hs (by omega) (by omega) h2 (by rw [show pk16 513 = 513 by decide]; exact hl1.q1)
  obtain ⟨g4, m4, all4, r4, h4⟩ := tail6 (all := IntKind.i64.wrap (IntKind.i64.wrap (IntKind.i64.wrap (0 + q) + q2) + q3)) hk hs hl1 h3
  exact ⟨g4, m4, all4, by rw [run_step i1, run_step i2, run_step i3]; exact r4, h4⟩
theorem pass6 {g g1 : Rg} {m : Mem} {a b s op q : Int} {k : Nat} (hk : k ≤ 7) (hs : okSP s) (hl : Lay m op k) (i1 : instrM 7 0 (ofR g) m = some (q, ofR g1, m)) (h1 : At g1 a b s 40003) : ∃ g' m' all', runM 4 (ofR g) m 0 = some (ofR g', m', all') ∧ At g' a ((b + 1) % 256) s 40004 := by
  obtain ⟨g4, m4, all4, r4, h4⟩ := tail6 (all := IntKind.i64.wrap (0 + q)) hk hs hl h1
  exact ⟨g4, m4, all4, by rw [run_step i1]; exact r4, h4⟩
/-! ### the law -/
theorem g6_in (r : Rg) : InR (g6 r) := by
  have h := bnd_in r
  exact ⟨h.hA, h.hF, h.hB, h.hC, h.hD, h.hE, h.hH, h.hL, h.hSP, ⟨by show (0 : Int) ≤ 40000; omega, by show (40000 : Int) ≤ 65535; omega⟩, h.hSt⟩
theorem h6_in (r : Rg) : InR (h6 r) := by
  have h := bnd_in r
  exact ⟨h.hA, h.hF, h.hB, h.hC, h.hD, h.hE, h.hH, h.hL, ⟨by show (0 : Int) ≤ 50000; omega, by show (50000 : Int) ≤ 65535; omega⟩, ⟨by show (0 : Int) ≤ 40000; omega, by show (40000 : Int) ≤ 65535; omega⟩, h.hSt⟩
/-- Which way SP goes. -/
def spOk (r : Rg) : Nat → Prop
  | 0 => 1024 ≤ (bndR r).SP ∧ (bndR r).SP ≤ 39990
  | 1 => 40040 ≤ (bndR r).SP
  | 2 => 39990 < (bndR r).SP ∧ (bndR r).SP < 40040
  | _ => (bndR r).SP < 1024
theorem spC_eq {r : Rg} {s : Nat} (h : spOk r s) : spC (bndR r).SP s = spD s := by
  have hh := (bnd_in r).hSP
  match s with
  | 0 => simp only [spOk] at h; simp only [spC, spD]; rw [decide_eq_false (by omega), decide_eq_false (by omega)]
  | 1 => simp only [spOk] at h; simp only [spC, spD]; rw [decide_eq_false (by omega), decide_eq_true (by omega), decide_eq_false (by omega)]
  | 2 => simp only [spOk] at h; simp only [spC, spD]; rw [decide_eq_false (by omega), decide_eq_true (by omega), decide_eq_true (by omega)]
  | s + 3 => simp only [spOk] at h; simp only [spC, spD]; rw [decide_eq_true (by omega)]
theorem spG_fact {r : Rg} {s : Nat} (h : spOk r s) : bndR (spG r s) = spG r s ∧ spS (spG r s) s = [true, false] ∧ okSP (spG r s).SP ∧ (spG r s).PC = 40000 ∧ (spG r s).St = 0 ∧ (spG r s).F = (bndR r).F := by
  have hh := (bnd_in r).hSP
  have e1 := bnd_id (g6_in r) (bnd_f16 r) rfl
  have e2 := bnd_id (h6_in r) (bnd_f16 r) rfl
  have f1 : fOk (g6 r) = true := by show ((bndR r).F % 16 == 0) = true; rw [bnd_f16]; rfl
  have f2 : fOk (h6 r) = true := by show ((bndR r).F % 16 == 0) = true; rw [bnd_f16]; rfl
  have q1 : eqRc (g6 r) (g6 r) = true := by simp [eqRc]
  have q2 : eqRd (h6 r) (h6 r) = true := by simp [eqRd]
  match s with
  | 0 =>
    simp only [spOk] at h
    refine ⟨e1, ?_, ⟨h.1, by show (bndR r).SP ≤ 65535; omega, .inl h.2⟩, rfl, rfl, rfl⟩
    simp only [spG, spS, startC]; rw [e1, f1, q1]; rfl
  | 1 =>
    simp only [spOk] at h
    refine ⟨e1, ?_, ⟨by show 1024 ≤ (bndR r).SP; omega, hh.2, .inr h⟩, rfl, rfl, rfl⟩
    simp only [spG, spS, startC]; rw [e1, f1, q1]; rfl
  | 2 =>
    refine ⟨e2, ?_, ⟨by show (1024 : Int) ≤ 50000; omega, by show (50000 : Int) ≤ 65535; omega, .inr (by show (40040 : Int) ≤ 50000; omega)⟩, rfl, rfl, rfl⟩
    simp only [spG, spS, startD]; rw [e2, f2, q2]; rfl
  | s + 3 =>
    refine ⟨e2, ?_, ⟨by show (1024 : Int) ≤ 50000; omega, by show (50000 : Int) ≤ 65535; omega, .inr (by show (40040 : Int) ≤ 50000; omega)⟩, rfl, rfl, rfl⟩
    simp only [spG, spS, startD]; rw [e2, f2, q2]; rfl
/-- Out of a run, the law. -/
theorem all6 {r : Rg} {cond rst : Int} {s c : Nat} {h : Bool} {n : Nat} (hn : n6 h = n) (hn' : n ≤ 1000000) (hS : spOk r s) (hc : cnd (cc cond) (bndR r).F c = cndD c) (hh : hs (cc cond) (bndR r).F c = hsD h c)
    (hr : ∃ g' m' all', runM n (ofR (spG r s)) (m6 (op6 (cc cond) c) rst) 0 = some (ofR g', m', all') ∧ At g' (a6 (spG r s).A h) (((spG r s).B + 1) % 256) (spG r s).SP 40004) : conds6 r cond rst s c h = dirs6 s c h ∧ last6 r cond rst s c h = true := by
  obtain ⟨e1, e2, e3, e4, e5, e6⟩ := spG_fact hS
  obtain ⟨g', m', all', hr, ha⟩ := hr
  obtain ⟨k1, k2⟩ := runsR_of hn' hr
  have t1 : ask6 (spG r s) (m6 (op6 (cc cond) c) rst) (n6 h) = true := by unfold ask6; rw [e1, hn]; exact k1
  have t2 : t6 (spG r s) (m6 (op6 (cc cond) c) rst) (n6 h) = g' := by unfold t6; rw [e1, hn, k2]; rfl
  constructor
  · unfold conds6 dirs6 outC
    rw [spC_eq hS, hc, e2, hh, t1, t2, ha.P, ha.A, ha.B]
    simp only [BEq.rfl]
  · unfold last6; rw [t2, ha.S]; exact BEq.rfl
theorem case0t {r : Rg} {cond rst : Int} {s k : Nat} (hk : k ≤ 7) (hr : rs rst = k) (hc : cc cond = (0 : Nat)) (hS : spOk r s) (hh : holdsM 0 (bndR r).F = true) : conds6 r cond rst s 1 true = dirs6 s 1 true ∧ last6 r cond rst s 1 true = true := by
  obtain ⟨e1, e2, e3, e4, e5, e6⟩ := spG_fact hS
  have hat : At (spG r s) (spG r s).A (spG r s).B (spG r s).SP 40000 := ⟨e5, rfl, rfl, rfl, e4⟩
  have hl : Lay (m6 (op6 (cc cond) 1) rst) (196 + 8 * ((0 : Nat) : Int)) k := by
    have := lay6 (op := op6 (cc cond) 1) hk hr
    rw [hc] at this ⊢; exact this
  obtain ⟨g1, q, i1, h1⟩ := doCall0 hat hl (by rw [e6]; exact hh)
  exact all6 (n := 6) rfl (by omega) hS (by rw [hc]; rfl) (by rw [hc]; show [holdsM 0 (bndR r).F] = [true]; rw [hh]) (head6 hk e3 hl i1 h1)
theorem case0f {r : Rg} {cond rst : Int} {s k : Nat} (hk : k ≤ 7) (hr : rs rst = k) (hc : cc cond = (0 : Nat)) (hS : spOk r s) (hh : holdsM 0 (bndR r).F = false) : conds6 r cond rst s 1 false = dirs6 s 1 false ∧ last6 r cond rst s 1 false = true := by
  obtain ⟨e1, e2, e3, e4, e5, e6⟩ := spG_fact hS
  have hat : At (spG r s) (spG r s).A (spG r s).B (spG r s).SP 40000 := ⟨e5, rfl, rfl, rfl, e4⟩
  have hl : Lay (m6 (op6 (cc cond) 1) rst) (196 + 8 * ((0 : Nat) : Int)) k := by
    have := lay6 (op := op6 (cc cond) 1) hk hr
    rw [hc] at this ⊢; exact this
  obtain ⟨g1, q, i1, h1⟩ := doPass0 hat hl (by rw [e6]; exact hh)
  exact all6 (n := 4) rfl (by omega) hS (by rw [hc]; rfl) (by rw [hc]; show [holdsM 0 (bndR r).F] = [false]; rw [hh]) (pass6 hk e3 hl i1 h1)
theorem case1t {r : Rg} {cond rst : Int} {s k : Nat} (hk : k ≤ 7) (hr : rs rst = k) (hc : cc cond = (1 : Nat)) (hS : spOk r s) (hh : holdsM 1 (bndR r).F = true) : conds6 r cond rst s 1 true = dirs6 s 1 true ∧ last6 r cond rst s 1 true = true := by
  obtain ⟨e1, e2, e3, e4, e5, e6⟩ := spG_fact hS
  have hat : At (spG r s) (spG r s).A (spG r s).B (spG r s).SP 40000 := ⟨e5, rfl, rfl, rfl, e4⟩
  have hl : Lay (m6 (op6 (cc cond) 1) rst) (196 + 8 * ((1 : Nat) : Int)) k := by
    have := lay6 (op := op6 (cc cond) 1) hk hr
    rw [hc] at this ⊢; exact this
  obtain ⟨g1, q, i1, h1⟩ := doCall1 hat hl (by rw [e6]; exact hh)
  exact all6 (n := 6) rfl (by omega) hS (by rw [hc]; rfl) (by rw [hc]; show [holdsM 1 (bndR r).F] = [true]; rw [hh]) (head6 hk e3 hl i1 h1)
theorem case1f {r : Rg} {cond rst : Int} {s k : Nat} (hk : k ≤ 7) (hr : rs rst = k) (hc : cc cond = (1 : Nat)) (hS : spOk r s) (hh : holdsM 1 (bndR r).F = false) : conds6 r cond rst s 1 false = dirs6 s 1 false ∧ last6 r cond rst s 1 false = true := by
  obtain ⟨e1, e2, e3, e4, e5, e6⟩ := spG_fact hS
  have hat : At (spG r s) (spG r s).A (spG r s).B (spG r s).SP 40000 := ⟨e5, rfl, rfl, rfl, e4⟩
  have hl : Lay (m6 (op6 (cc cond) 1) rst) (196 + 8 * ((1 : Nat) : Int)) k := by
    have := lay6 (op := op6 (cc cond) 1) hk hr
    rw [hc] at this ⊢; exact this
  obtain ⟨g1, q, i1, h1⟩ := doPass1 hat hl (by rw [e6]; exact hh)
  exact all6 (n := 4) rfl (by omega) hS (by rw [hc]; rfl) (by rw [hc]; show [holdsM 1 (bndR r).F] = [false]; rw [hh]) (pass6 hk e3 hl i1 h1)
theorem case2t {r : Rg} {cond rst : Int} {s k : Nat} (hk : k ≤ 7) (hr : rs rst = k) (hc : cc cond = (2 : Nat)) (hS : spOk r s) (hh : holdsM 2 (bndR r).F = true) : conds6 r cond rst s 2 true = dirs6 s 2 true ∧ last6 r cond rst s 2 true = true := by
  obtain ⟨e1, e2, e3, e4, e5, e6⟩ := spG_fact hS
  have hat : At (spG r s) (spG r s).A (spG r s).B (spG r s).SP 40000 := ⟨e5, rfl, rfl, rfl, e4⟩
  have hl : Lay (m6 (op6 (cc cond) 2) rst) (196 + 8 * ((2 : Nat) : Int)) k := by
    have := lay6 (op := op6 (cc cond) 2) hk hr
    rw [hc] at this ⊢; exact this
  obtain ⟨g1, q, i1, h1⟩ := doCall2 hat hl (by rw [e6]; exact hh)
  exact all6 (n := 6) rfl (by omega) hS (by rw [hc]; rfl) (by rw [hc]; show [holdsM 2 (bndR r).F] = [true]; rw [hh]) (head6 hk e3 hl i1 h1)
theorem case2f {r : Rg} {cond rst : Int} {s k : Nat} (hk : k ≤ 7) (hr : rs rst = k) (hc : cc cond = (2 : Nat)) (hS : spOk r s) (hh : holdsM 2 (bndR r).F = false) : conds6 r cond rst s 2 false = dirs6 s 2 false ∧ last6 r cond rst s 2 false = true := by
  obtain ⟨e1, e2, e3, e4, e5, e6⟩ := spG_fact hS
  have hat : At (spG r s) (spG r s).A (spG r s).B (spG r s).SP 40000 := ⟨e5, rfl, rfl, rfl, e4⟩
  have hl : Lay (m6 (op6 (cc cond) 2) rst) (196 + 8 * ((2 : Nat) : Int)) k := by
    have := lay6 (op := op6 (cc cond) 2) hk hr
    rw [hc] at this ⊢; exact this
  obtain ⟨g1, q, i1, h1⟩ := doPass2 hat hl (by rw [e6]; exact hh)
  exact all6 (n := 4) rfl (by omega) hS (by rw [hc]; rfl) (by rw [hc]; show [holdsM 2 (bndR r).F] = [false]; rw [hh]) (pass6 hk e3 hl i1 h1)
theorem case3t {r : Rg} {cond rst : Int} {s k : Nat} (hk : k ≤ 7) (hr : rs rst = k) (hc : cc cond = (3 : Nat)) (hS : spOk r s) (hh : holdsM 3 (bndR r).F = true) : conds6 r cond rst s 2 true = dirs6 s 2 true ∧ last6 r cond rst s 2 true = true := by
  obtain ⟨e1, e2, e3, e4, e5, e6⟩ := spG_fact hS
  have hat : At (spG r s) (spG r s).A (spG r s).B (spG r s).SP 40000 := ⟨e5, rfl, rfl, rfl, e4⟩
  have hl : Lay (m6 (op6 (cc cond) 2) rst) (196 + 8 * ((3 : Nat) : Int)) k := by
    have := lay6 (op := op6 (cc cond) 2) hk hr
    rw [hc] at this ⊢; exact this
  obtain ⟨g1, q, i1, h1⟩ := doCall3 hat hl (by rw [e6]; exact hh)
  exact all6 (n := 6) rfl (by omega) hS (by rw [hc]; rfl) (by rw [hc]; show [holdsM 3 (bndR r).F] = [true]; rw [hh]) (head6 hk e3 hl i1 h1)
theorem case3f {r : Rg} {cond rst : Int} {s k : Nat} (hk : k ≤ 7) (hr : rs rst = k) (hc : cc cond = (3 : Nat)) (hS : spOk r s) (hh : holdsM 3 (bndR r).F = false) : conds6 r cond rst s 2 false = dirs6 s 2 false ∧ last6 r cond rst s 2 false = true := by
  obtain ⟨e1, e2, e3, e4, e5, e6⟩ := spG_fact hS
  have hat : At (spG r s) (spG r s).A (spG r s).B (spG r s).SP 40000 := ⟨e5, rfl, rfl, rfl, e4⟩
  have hl : Lay (m6 (op6 (cc cond) 2) rst) (196 + 8 * ((3 : Nat) : Int)) k := by
    have := lay6 (op := op6 (cc cond) 2) hk hr
    rw [hc] at this ⊢; exact this
  obtain ⟨g1, q, i1, h1⟩ := doPass3 hat hl (by rw [e6]; exact hh)
  exact all6 (n := 4) rfl (by omega) hS (by rw [hc]; rfl) (by rw [hc]; show [holdsM 3 (bndR r).F] = [false]; rw [hh]) (pass6 hk e3 hl i1 h1)
theorem case4t {r : Rg} {cond rst : Int} {s k : Nat} (hk : k ≤ 7) (hr : rs rst = k) (hc : cc cond = (4 : Nat)) (hS : spOk r s) : conds6 r cond rst s 0 true = dirs6 s 0 true ∧ last6 r cond rst s 0 true = true := by
  obtain ⟨e1, e2, e3, e4, e5, e6⟩ := spG_fact hS
  have hat : At (spG r s) (spG r s).A (spG r s).B (spG r s).SP 40000 := ⟨e5, rfl, rfl, rfl, e4⟩
  have hl : Lay (m6 (op6 (cc cond) 0) rst) (205) k := by
    have := lay6 (op := op6 (cc cond) 0) hk hr
    rw [hc] at this ⊢; exact this
  obtain ⟨g1, q, i1, h1⟩ := doCall4 hat hl
  exact all6 (n := 6) rfl (by omega) hS (by rw [hc]; rfl) (by rw [hc]; rfl) (head6 hk e3 hl i1 h1)
theorem cpuCalls_true (r : Rg) (cond rst : Int) : ∃ v hp', (law6 r cond rst).run = some (.ret v, hp') ∧ ∀ (ρ : Ren) x, VR ρ v x → x = .bool true := by
  have hp := pickV_in (c := cond) (n := ((5 : Nat) : Int)) (by decide)
  have hp2 := pickV_in (c := rst) (n := ((8 : Nat) : Int)) (by decide)
  obtain ⟨k, hk⟩ : ∃ k : Nat, rs rst = k := ⟨(rs rst).toNat, by unfold rs; omega⟩
  have hk7 : k ≤ 7 := by unfold rs at hk; omega
  obtain ⟨c, hc⟩ : ∃ c : Nat, cc cond = c := ⟨(cc cond).toNat, by unfold cc; omega⟩
  have hcc : c = 0 ∨ c = 1 ∨ c = 2 ∨ c = 3 ∨ c = 4 := by unfold cc at hc; omega
  have hsp : spOk r 0 ∨ spOk r 1 ∨ spOk r 2 ∨ spOk r 3 := by
    have := (bnd_in r).hSP
    simp only [spOk]; omega
  rcases hcc with rfl | rfl | rfl | rfl | rfl
  · cases hh : holdsM 0 (bndR r).F with
    | true =>
      rcases hsp with hsp | hsp | hsp | hsp
      · obtain ⟨e1, e2⟩ := case0t hk7 hk hc hsp hh; exact lawPath_run (congrFun (congrFun (congrFun l6_0_1t r) cond) rst) e1 e2
      · obtain ⟨e1, e2⟩ := case0t hk7 hk hc hsp hh; exact lawPath_run (congrFun (congrFun (congrFun l6_1_1t r) cond) rst) e1 e2
      · obtain ⟨e1, e2⟩ := case0t hk7 hk hc hsp hh; exact lawPath_run (congrFun (congrFun (congrFun l6_2_1t r) cond) rst) e1 e2
      · obtain ⟨e1, e2⟩ := case0t hk7 hk hc hsp hh; exact lawPath_run (congrFun (congrFun (congrFun l6_3_1t r) cond) rst) e1 e2
    | false =>
      rcases hsp with hsp | hsp | hsp | hsp
      · obtain ⟨e1, e2⟩ := case0f hk7 hk hc hsp hh; exact lawPath_run (congrFun (congrFun (congrFun l6_0_1f r) cond) rst) e1 e2
      · obtain ⟨e1, e2⟩ := case0f hk7 hk hc hsp hh; exact lawPath_run (congrFun (congrFun (congrFun l6_1_1f r) cond) rst) e1 e2
      · obtain ⟨e1, e2⟩ := case0f hk7 hk hc hsp hh; exact lawPath_run (congrFun (congrFun (congrFun l6_2_1f r) cond) rst) e1 e2
      · obtain ⟨e1, e2⟩ := case0f hk7 hk hc hsp hh; exact lawPath_run (congrFun (congrFun (congrFun l6_3_1f r) cond) rst) e1 e2
  · cases hh : holdsM 1 (bndR r).F with
    | true =>
      rcases hsp with hsp | hsp | hsp | hsp
      · obtain ⟨e1, e2⟩ := case1t hk7 hk hc hsp hh; exact lawPath_run (congrFun (congrFun (congrFun l6_0_1t r) cond) rst) e1 e2
      · obtain ⟨e1, e2⟩ := case1t hk7 hk hc hsp hh; exact lawPath_run (congrFun (congrFun (congrFun l6_1_1t r) cond) rst) e1 e2
      · obtain ⟨e1, e2⟩ := case1t hk7 hk hc hsp hh; exact lawPath_run (congrFun (congrFun (congrFun l6_2_1t r) cond) rst) e1 e2
      · obtain ⟨e1, e2⟩ := case1t hk7 hk hc hsp hh; exact lawPath_run (congrFun (congrFun (congrFun l6_3_1t r) cond) rst) e1 e2
    | false =>
      rcases hsp with hsp | hsp | hsp | hsp
      · obtain ⟨e1, e2⟩ := case1f hk7 hk hc hsp hh; exact lawPath_run (congrFun (congrFun (congrFun l6_0_1f r) cond) rst) e1 e2
      · obtain ⟨e1, e2⟩ := case1f hk7 hk hc hsp hh; exact lawPath_run (congrFun (congrFun (congrFun l6_1_1f r) cond) rst) e1 e2
      · obtain ⟨e1, e2⟩ := case1f hk7 hk hc hsp hh; exact lawPath_run (congrFun (congrFun (congrFun l6_2_1f r) cond) rst) e1 e2
      · obtain ⟨e1, e2⟩ := case1f hk7 hk hc hsp hh; exact lawPath_run (congrFun (congrFun (congrFun l6_3_1f r) cond) rst) e1 e2
  · cases hh : holdsM 2 (bndR r).F with
    | true =>
      rcases hsp with hsp | hsp | hsp | hsp
      · obtain ⟨e1, e2⟩ := case2t hk7 hk hc hsp hh; exact lawPath_run (congrFun (congrFun (congrFun l6_0_2t r) cond) rst) e1 e2
      · obtain ⟨e1, e2⟩ := case2t hk7 hk hc hsp hh; exact lawPath_run (congrFun (congrFun (congrFun l6_1_2t r) cond) rst) e1 e2
      · obtain ⟨e1, e2⟩ := case2t hk7 hk hc hsp hh; exact lawPath_run (congrFun (congrFun (congrFun l6_2_2t r) cond) rst) e1 e2
      · obtain ⟨e1, e2⟩ := case2t hk7 hk hc hsp hh; exact lawPath_run (congrFun (congrFun (congrFun l6_3_2t r) cond) rst) e1 e2
    | false =>
      rcases hsp with hsp | hsp | hsp | hsp
      · obtain ⟨e1, e2⟩ := case2f hk7 hk hc hsp hh; exact lawPath_run (congrFun (congrFun (congrFun l6_0_2f r) cond) rst) e1 e2
      · obtain ⟨e1, e2⟩ := case2f hk7 hk hc hsp hh; exact lawPath_run (congrFun (congrFun (congrFun l6_1_2f r) cond) rst) e1 e2
      · obtain ⟨e1, e2⟩ := case2f hk7 hk hc hsp hh; exact lawPath_run (congrFun (congrFun (congrFun l6_2_2f r) cond) rst) e1 e2
      · obtain ⟨e1, e2⟩ := case2f hk7 hk hc hsp hh; exact lawPath_run (congrFun (congrFun (congrFun l6_3_2f r) cond) rst) e1 e2
  · cases hh : holdsM 3 (bndR r).F with
    | true =>
      rcases hsp with hsp | hsp | hsp | hsp
      · obtain ⟨e1, e2⟩ := case3t hk7 hk hc hsp hh; exact lawPath_run (congrFun (congrFun (congrFun l6_0_2t r) cond) rst) e1 e2
      · obtain ⟨e1, e2⟩ := case3t hk7 hk hc hsp hh; exact lawPath_run (congrFun (congrFun (congrFun l6_1_2t r) cond) rst) e1 e2
      · obtain ⟨e1, e2⟩ := case3t hk7 hk hc hsp hh; exact lawPath_run (congrFun (congrFun (congrFun l6_2_2t r) cond) rst) e1 e2
      · obtain ⟨e1, e2⟩ := case3t hk7 hk hc hsp hh; exact lawPath_run (congrFun (congrFun (congrFun l6_3_2t r) cond) rst) e1 e2
    | false =>
      rcases hsp with hsp | hsp | hsp | hsp
      · obtain ⟨e1, e2⟩ := case3f hk7 hk hc hsp hh; exact lawPath_run (congrFun (congrFun (congrFun l6_0_2f r) cond) rst) e1 e2
      · obtain ⟨e1, e2⟩ := case3f hk7 hk hc hsp hh; exact lawPath_run (congrFun (congrFun (congrFun l6_1_2f r) cond) rst) e1 e2
      · obtain ⟨e1, e2⟩ := case3f hk7 hk hc hsp hh; exact lawPath_run (congrFun (congrFun (congrFun l6_2_2f r) cond) rst) e1 e2
      · obtain ⟨e1, e2⟩ := case3f hk7 hk hc hsp hh; exact lawPath_run (congrFun (congrFun (congrFun l6_3_2f r) cond) rst) e1 e2
  · rcases hsp with hsp | hsp | hsp | hsp
    · obtain ⟨e1, e2⟩ := case4t hk7 hk hc hsp; exact lawPath_run (congrFun (congrFun (congrFun l6_0_0t r) cond) rst) e1 e2
    · obtain ⟨e1, e2⟩ := case4t hk7 hk hc hsp; exact lawPath_run (congrFun (congrFun (congrFun l6_1_0t r) cond) rst) e1 e2
    · obtain ⟨e1, e2⟩ := case4t hk7 hk hc hsp; exact lawPath_run (congrFun (congrFun (congrFun l6_2_0t r) cond) rst) e1 e2
    · obtain ⟨e1, e2⟩ := case4t hk7 hk hc hsp; exact lawPath_run (congrFun (congrFun (congrFun l6_3_0t r) cond) rst) e1 e2
end Go.Proofs.YtmlfmkebljdoiaaGreatDoor
