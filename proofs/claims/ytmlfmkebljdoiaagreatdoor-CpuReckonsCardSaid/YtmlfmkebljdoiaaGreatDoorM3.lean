/- Own text: CpuReckons: the law. -/
import Derived.Test.YtmlfmkebljdoiaaGreatDoorL3
namespace Go.Proofs.YtmlfmkebljdoiaaGreatDoor
open Go.Ev Go.Ev.Tr Go.Proofs
set_option maxRecDepth 1000000
theorem g3_in (r : Rg) {n : Int} (hn : InU8 n) : InR (g3 r n) := by
  have h := bnd_in r
  exact ⟨h.hA, h.hF, ⟨hn.1, hn.2⟩, h.hC, h.hD, h.hE, ⟨by show (0 : Int) ≤ 192; omega, by show (192 : Int) ≤ 255; omega⟩, h.hL, h.hSP, ⟨by show (0 : Int) ≤ 512; omega, by show (512 : Int) ≤ 65535; omega⟩, h.hSt⟩
theorem bnd3 (r : Rg) {n : Int} (hn : InU8 n) : bndR (g3 r n) = g3 r n := bnd_id (g3_in r hn) (bnd_f16 r) rfl
theorem start3_eq (r : Rg) {n : Int} (hn : InU8 n) : start3 r n = [true, false] := by
  unfold start3
  rw [bnd3 r hn]
  have h1 : fOk (g3 r n) = true := by show ((bndR r).F % 16 == 0) = true; rw [bnd_f16]; rfl
  have h2 : eqRh (g3 r n) (g3 r n) = true := by simp [eqRh]
  rw [h1, h2]; rfl
/-- One instruction. -/
theorem one3 {r : Rg} {n : Int} (hn : InU8 n) {m m' : Mem} {k : Int} {g' : Rg} (h : instrM 7 0 (ofR (g3 r n)) m = some (k, ofR g', m')) : ask3 r n m 1 = true ∧ t3 r n m 1 = g' := by
  obtain ⟨k1, k2⟩ := runsR_of (n := 1) (by omega) (show runM 1 (ofR (g3 r n)) m 0 = some (ofR g', m', _) by rw [run_step h]; simp only [runM]; rfl)
  unfold ask3 t3 s3
  rw [bnd3 r hn]
  exact ⟨k1, by have := k2; rw [show ((1 : Nat) : Int) = 1 by rfl] at this; rw [this]; rfl⟩
theorem at3_eq (r : Rg) : at3 r = 49152 + (bndR r).L ∧ 0 ≤ (bndR r).L ∧ (bndR r).L ≤ 255 := by
  have h := (bnd_in r).hL
  refine ⟨?_, h.1, h.2⟩
  unfold at3
  rw [pickV_id (by omega) (by omega)]; omega
theorem hl3 (r : Rg) {n : Int} (hn : InU8 n) : hlM (g3 r n) = 49152 + (bndR r).L := by
  rw [hl_eq (g3_in r hn)]
  show 192 * 256 + (bndR r).L = _
  omega
theorem pk_lit {a : Int} {k : Nat} (h : a = k) (hk : k ≤ 65535) : pk16 a = k := by rw [pk16_id (by omega) (by omega)]; omega
section
variable (r : Rg) (n : Int) (hn : InU8 n)
include hn
theorem fetch0 (k : Nat) : mem3 r n k 0 512 = 198 + 8 * k ∧ mem3 r n k 0 513 = n ∧ mem3 r n k 1 512 = 128 + 8 * k ∧ mem3 r n k 2 512 = 134 + 8 * k ∧ mem3 r n k 2 (pk16 (hlM (g3 r n))) = n := by
  obtain ⟨h1, h2, h3⟩ := at3_eq r
  have e : pk16 (hlM (g3 r n)) = (49152 + (bndR r).L).toNat := by rw [hl3 r hn]; exact pk16_id (by omega) (by omega)
  refine ⟨?_, ?_, ?_, ?_, ?_⟩ <;> simp only [mem3, memOf, h1]
  · rw [if_neg (by omega), if_neg (by omega), if_pos (by omega)]
  · rw [if_neg (by omega), if_pos (by omega)]
  · rw [if_neg (by omega), if_pos (by omega)]
  · rw [if_neg (by omega), if_pos (by omega)]
  · rw [e, if_pos (by omega)]
end
/-- What the three ways come to. -/
theorem part3_eq (r : Rg) {n : Int} (hn : InU8 n) {k i : Nat} {g' : Rg} {m' : Mem} {q : Int} (h : instrM 7 0 (ofR (g3 r n)) (mem3 r n k i) = some (q, ofR g', m')) (hA : g'.A = alu2 17 [.int .i64 (I.lit (k : Nat)), kb .u8 (bndR r).A, kb .u8 n, kb .u8 (bndR r).F] 0) (hF : g'.F = alu2 17 [.int .i64 (I.lit (k : Nat)), kb .u8 (bndR r).A, kb .u8 n, kb .u8 (bndR r).F] 1) (hB : g'.B = n) (hL : g'.L = (bndR r).L) (hS : g'.SP = (bndR r).SP) : part3 r n k i = dpart := by
  obtain ⟨k1, k2⟩ := one3 hn h
  unfold part3
  rw [start3_eq r hn, k1, k2, hA, hF, hB, hL, hS]
  simp only [BEq.rfl, Bool.not_true]
  rfl
theorem zero3 (r : Rg) (n : Int) : (g3 r n).St = 0 := rfl
theorem pc3 (r : Rg) (n : Int) : (g3 r n).PC = 512 := rfl
theorem pk512 : pk16 512 = 512 := by decide
theorem pk513 : pk16 (nxt 512) = 513 := by decide
/-- Of g3, what is needed. -/
structure Is3 (r : Rg) (n : Int) (g : Rg) : Prop where
  A : g.A = (bndR r).A
  F : g.F = (bndR r).F
  B : g.B = n
  L : g.L = (bndR r).L
  D : g.D = (bndR r).D
  SP : g.SP = (bndR r).SP
  PC : g.PC = 512
  St : g.St = 0
theorem is3 (r : Rg) (n : Int) : Is3 r n (g3 r n) := ⟨rfl, rfl, rfl, rfl, rfl, rfl, rfl, rfl⟩
theorem arith_fields (g : Rg) (k : Nat) (v : Int) (b : Bool) (p : Int) : (z b { arithR g k v with PC := p }).A = alu2 17 [.int .i64 (I.lit (k : Nat)), kb .u8 g.A, kb .u8 v, kb .u8 g.F] 0 ∧ (z b { arithR g k v with PC := p }).F = alu2 17 [.int .i64 (I.lit (k : Nat)), kb .u8 g.A, kb .u8 v, kb .u8 g.F] 1 ∧ (z b { arithR g k v with PC := p }).B = g.B ∧ (z b { arithR g k v with PC := p }).L = g.L ∧ (z b { arithR g k v with PC := p }).SP = g.SP := by refine ⟨?_, ?_, ?_, ?_, ?_⟩ <;> simp only [z, arithR]
theorem way012 (r : Rg) {n : Int} (hn : InU8 n) (k i : Nat) {q p v : Int} (hv : v = n) (h : instrM 7 0 (ofR (g3 r n)) (mem3 r n k i) = some (q, ofR (z (g3 r n).IME { arithR (g3 r n) k v with PC := p }), mem3 r n k i)) : part3 r n k i = dpart := by
  have hg := is3 r n
  generalize hG : (z (g3 r n).IME { arithR (g3 r n) k v with PC := p }) = g' at h
  obtain ⟨a1, a2, a3, a4, a5⟩ := arith_fields (g3 r n) k v (g3 r n).IME p
  rw [hG] at a1 a2 a3 a4 a5
  rw [hg.A, hg.F, hv] at a1 a2
  exact part3_eq r hn h a1 a2 (a3.trans hg.B) (a4.trans hg.L) (a5.trans hg.SP)
theorem step_of {g : Rg} {m : Mem} {op q : Int} {G : Rg → Mem → Rg} {M : Rg → Mem → Mem} (hst : g.St = 0) (hi : (fun g' m => firstF (z g.IME g') m op) = (fun g' m => some (q, ofR (z g.IME (G g' m)), M g' m))) (hop : m (pk16 g.PC) = op) : instrM 7 0 (ofR g) m = some (q, ofR (z g.IME (G g m)), M g m) := by
  have h := congrFun (congrFun hi g) m
  have h : firstF (z g.IME g) m op = _ := h
  rw [z_id hst] at h
  exact ins hop h
theorem way0 (r : Rg) {n : Int} (hn : InU8 n) (k : Nat) (hi : (fun g m => firstF (z (g3 r n).IME g) m (198 + 8 * k)) = (fun g m => some (2, ofR (z (g3 r n).IME { arithR g k (m (pk16 (nxt g.PC))) with PC := nxt (nxt g.PC) }), m))) : part3 r n k 0 = dpart := by
  obtain ⟨f1, f2, _⟩ := fetch0 r n hn k
  have h := step_of (G := fun g m => { arithR g k (m (pk16 (nxt g.PC))) with PC := nxt (nxt g.PC) }) (M := fun _ m => m) (m := mem3 r n k 0) (zero3 r n) hi (by rw [pc3, pk512]; exact f1)
  exact way012 r hn k 0 (by rw [pc3, pk513]; exact f2) h
theorem way1 (r : Rg) {n : Int} (hn : InU8 n) (k : Nat) (hi : (fun g m => firstF (z (g3 r n).IME g) m (128 + 8 * k)) = (fun g m => some (1, ofR (z (g3 r n).IME { arithR g k g.B with PC := nxt g.PC }), m))) : part3 r n k 1 = dpart := by
  obtain ⟨_, _, f1, _⟩ := fetch0 r n hn k
  have h := step_of (G := fun g m => { arithR g k g.B with PC := nxt g.PC }) (M := fun _ m => m) (m := mem3 r n k 1) (zero3 r n) hi (by rw [pc3, pk512]; exact f1)
  exact way012 r hn k 1 (is3 r n).B h
theorem way2 (r : Rg) {n : Int} (hn : InU8 n) (k : Nat) (hi : (fun g m => firstF (z (g3 r n).IME g) m (134 + 8 * k)) = (fun g m => some (2, ofR (z (g3 r n).IME { arithR g k (m (pk16 (hlM g))) with PC := nxt g.PC }), m))) : part3 r n k 2 = dpart := by
  obtain ⟨_, _, _, f1, f2⟩ := fetch0 r n hn k
  have h := step_of (G := fun g m => { arithR g k (m (pk16 (hlM g))) with PC := nxt g.PC }) (M := fun _ m => m) (m := mem3 r n k 2) (zero3 r n) hi (by rw [pc3, pk512]; exact f1)
  exact way012 r hn k 2 f2 h
theorem way3 (r : Rg) {n : Int} (hn : InU8 n) (k : Nat) (hi : (fun g m => firstF (z (g3 r n).IME g) m (20 + (k % 2 : Nat))) = (fun g m => some (1, ofR (z (g3 r n).IME { g with D := stepV g (k % 2) g.D 0, F := stepV g (k % 2) g.D 1, PC := nxt g.PC }), m))) :
    ask3 r n (mStep k) 1 = true ∧ (t3 r n (mStep k) 1).D = stepV (bndR r) (k % 2) (bndR r).D 0 ∧ (t3 r n (mStep k) 1).F = stepV (bndR r) (k % 2) (bndR r).D 1 := by
  have h := step_of (G := fun g m => { g with D := stepV g (k % 2) g.D 0, F := stepV g (k % 2) g.D 1, PC := nxt g.PC }) (M := fun _ m => m) (m := mStep k) (zero3 r n) hi (by rw [pc3, pk512]; simp [mStep, memOf])
  obtain ⟨k1, k2⟩ := one3 hn h
  have hg := is3 r n
  have e : ∀ i, stepV (g3 r n) (k % 2) (g3 r n).D i = stepV (bndR r) (k % 2) (bndR r).D i := fun i => by unfold stepV; rw [hg.F, hg.D]
  refine ⟨k1, ?_, ?_⟩
  · rw [k2, ← e 0]; simp only [z]
  · rw [k2, ← e 1]; simp only [z]
theorem turn_fields (g : Rg) (k : Nat) (b : Bool) (p : Int) : (z b { turnR g k with PC := p }).A = alu2 23 [.int .i64 (I.lit (k : Nat)), kb .u8 g.A, kb .u8 g.F] 0 ∧ (z b { turnR g k with PC := p }).F = alu2 23 [.int .i64 (I.lit (k : Nat)), kb .u8 g.A, kb .u8 g.F] 1 := by refine ⟨?_, ?_⟩ <;> simp only [z, turnR]
theorem turn_fields' (g : Rg) (k : Nat) : (turnR g k).A = alu2 23 [.int .i64 (I.lit (k : Nat)), kb .u8 g.A, kb .u8 g.F] 0 ∧ (turnR g k).F = alu2 23 [.int .i64 (I.lit (k : Nat)), kb .u8 g.A, kb .u8 g.F] 1 := by refine ⟨?_, ?_⟩ <;> simp only [turnR]
theorem way4 (r : Rg) {n : Int} (hn : InU8 n) (k : Nat) (hi : (fun g m => firstF (z (g3 r n).IME g) m (7 + 8 * k)) = (fun g m => some (1, ofR (z (g3 r n).IME { turnR g k with PC := nxt g.PC }), m))) :
    ask3 r n (mTurn k) 1 = true ∧ (t3 r n (mTurn k) 1).A = (turnR (bndR r) k).A ∧ (t3 r n (mTurn k) 1).F = (turnR (bndR r) k).F := by
  have h := step_of (G := fun g m => { turnR g k with PC := nxt g.PC }) (M := fun _ m => m) (m := mTurn k) (zero3 r n) hi (by rw [pc3, pk512]; simp [mTurn, memOf])
  obtain ⟨k1, k2⟩ := one3 hn h
  have hg := is3 r n
  obtain ⟨a1, a2⟩ := turn_fields (g3 r n) k (g3 r n).IME (nxt (g3 r n).PC)
  obtain ⟨b1, b2⟩ := turn_fields' (bndR r) k
  rw [hg.A, hg.F] at a1 a2
  refine ⟨k1, ?_, ?_⟩
  · rw [k2, b1]; exact a1
  · rw [k2, b2]; exact a2
theorem off_fields (g : Rg) (b : Bool) (h l f p : Int) : (z b { g with H := h, L := l, F := f, PC := p }).H = h ∧ (z b { g with H := h, L := l, F := f, PC := p }).L = l ∧ (z b { g with H := h, L := l, F := f, PC := p }).SP = g.SP ∧ (z b { g with H := h, L := l, F := f, PC := p }).PC = p ∧ (z b { g with H := h, L := l, F := f, PC := p }).St = 0 := ⟨rfl, rfl, rfl, rfl, rfl⟩
theorem off_fields2 (g : Rg) (b : Bool) (s f p : Int) : (z b { g with SP := s, F := f, PC := p }).H = g.H ∧ (z b { g with SP := s, F := f, PC := p }).L = g.L ∧ (z b { g with SP := s, F := f, PC := p }).SP = s ∧ (z b { g with SP := s, F := f, PC := p }).F = f := ⟨rfl, rfl, rfl, rfl⟩
theorem way5 (r : Rg) {n : Int} (hn : InU8 n) : ask3 r n (mOff n) 2 = true ∧ 256 * (t3 r n (mOff n) 2).H + (t3 r n (mOff n) 2).L = offV (bndR r).SP n 0 ∧ (t3 r n (mOff n) 2).SP = offV (bndR r).SP n 0 ∧ (t3 r n (mOff n) 2).F = offV (bndR r).SP n 1 := by
  have f0 : mOff n 512 = 248 := rfl
  have f1 : mOff n 513 = n := rfl
  have f2 : mOff n 514 = 232 := rfl
  have f3 : mOff n 515 = n := rfl
  have hg := is3 r n
  have e1 := step_of (G := fun g m => { g with H := offV g.SP (m (pk16 (nxt g.PC))) 0 / 256, L := offV g.SP (m (pk16 (nxt g.PC))) 0 % 256, F := offV g.SP (m (pk16 (nxt g.PC))) 1, PC := nxt (nxt g.PC) }) (M := fun _ m => m) (m := mOff n) (zero3 r n) (i248 (g3 r n).IME) (by rw [pc3, pk512]; exact f0)
  simp only [hg.SP, hg.PC, pk513, f1] at e1
  obtain ⟨b1, b2, b3, b4, b5⟩ := off_fields (g3 r n) (g3 r n).IME (offV (bndR r).SP n 0 / 256) (offV (bndR r).SP n 0 % 256) (offV (bndR r).SP n 1) (nxt (nxt 512))
  simp only [hg.SP] at b1 b2 b3 b4 b5
  generalize hG : (z (g3 r n).IME _ : Rg) = g1 at e1 b1 b2 b3 b4 b5
  have hp1 : g1.PC = 514 := b4
  have pk515 : pk16 (nxt 514) = 515 := by decide
  have pk514 : pk16 514 = 514 := by decide
  have e2 := step_of (G := fun g m => { g with SP := offV g.SP (m (pk16 (nxt g.PC))) 0, F := offV g.SP (m (pk16 (nxt g.PC))) 1, PC := nxt (nxt g.PC) }) (M := fun _ m => m) (m := mOff n) b5 (i232 g1.IME) (by rw [hp1, pk514]; exact f2)
  simp only [b3, hp1, pk515, f3] at e2
  obtain ⟨c1, c2, c3, c4⟩ := off_fields2 g1 g1.IME (offV (bndR r).SP n 0) (offV (bndR r).SP n 1) (nxt (nxt 514))
  generalize hG2 : (z g1.IME _ : Rg) = g2 at e2 c1 c2 c3 c4
  have hrun : runM 2 (ofR (g3 r n)) (mOff n) 0 = some (ofR g2, mOff n, IntKind.i64.wrap (IntKind.i64.wrap (0 + 3) + 4)) := by
    rw [run_step e1, run_step e2]; simp only [runM]
  obtain ⟨k1, k2⟩ := runsR_of (n := 2) (by omega) hrun
  have hs : t3 r n (mOff n) 2 = g2 := by
    unfold t3 s3
    rw [bnd3 r hn]
    have := k2
    rw [show ((2 : Nat) : Int) = 2 by rfl] at this
    rw [this]; rfl
  refine ⟨by unfold ask3; rw [bnd3 r hn]; exact k1, ?_, ?_, ?_⟩
  · rw [hs, c1, c2, b1, b2]; omega
  · rw [hs, c3]
  · rw [hs, c4]
theorem picks_eq {v : Int} {k : Nat} (h : v = k) : picks v k = dpick k := by
  unfold picks dpick
  refine List.map_congr_left fun j hj => ?_
  have hj := List.mem_range.1 hj
  subst h
  by_cases e : j = k
  · subst e; simp
  · have : ((k : Int) == (j : Int)) = false := by simp; omega
    rw [this]
    cases hb : Nat.beq j k
    · rfl
    · exact absurd (Nat.eq_of_beq_eq_true hb) e
theorem all3 (r : Rg) (op : Int) {n : Int} (hn : InU8 n) (k : Nat) (hv : pickV op (8 : Nat) = k) (h0 : part3 r n k 0 = dpart) (h1 : part3 r n k 1 = dpart) (h2 : part3 r n k 2 = dpart)
    (h3 : ask3 r n (mStep k) 1 = true ∧ (t3 r n (mStep k) 1).D = stepV (bndR r) (k % 2) (bndR r).D 0 ∧ (t3 r n (mStep k) 1).F = stepV (bndR r) (k % 2) (bndR r).D 1)
    (h4 : ask3 r n (mTurn k) 1 = true ∧ (t3 r n (mTurn k) 1).A = (turnR (bndR r) k).A ∧ (t3 r n (mTurn k) 1).F = (turnR (bndR r) k).F) : conds3 r op n k = dirs3 k ∧ last3 r n = true := by
  obtain ⟨a1, a2, a3⟩ := h3
  obtain ⟨b1, b2, b3⟩ := h4
  obtain ⟨c1, c2, c3, c4⟩ := way5 r hn
  constructor
  · unfold conds3 dirs3
    rw [picks_eq hv, h0, h1, h2, start3_eq r hn, a1, a2, a3, b1, b2, b3, c1, c2, c3]
    simp only [BEq.rfl, Bool.not_true]
  · unfold last3; rw [c4]; exact BEq.rfl
theorem cpuReckons_true (r : Rg) (op n : Int) (hn : InU8 n) : ∃ v hp', (law3 r op n).run = some (.ret v, hp') ∧ ∀ (ρ : Ren) x, VR ρ v x → x = .bool true := by
  have hp := pickV_in (c := op) (n := ((8 : Nat) : Int)) (by decide)
  obtain ⟨k, hk⟩ : ∃ k : Nat, pickV op (8 : Nat) = k := ⟨(pickV op (8 : Nat)).toNat, by omega⟩
  have hlt : k < 8 := by omega
  have hc : k = 0 ∨ k = 1 ∨ k = 2 ∨ k = 3 ∨ k = 4 ∨ k = 5 ∨ k = 6 ∨ k = 7 := by omega
  rcases hc with rfl | rfl | rfl | rfl | rfl | rfl | rfl | rfl
  · obtain ⟨e1, e2⟩ := all3 r op hn 0 hk (way0 r hn 0 (iAluN0 _)) (way1 r hn 0 (iAluB0 _)) (way2 r hn 0 (iAluM0 _)) (way3 r hn 0 (iStepD0 _)) (way4 r hn 0 (iTurn0 _))
    exact lawPath_run (congrFun (congrFun (congrFun law3_path0 r) op) n) e1 e2
  · obtain ⟨e1, e2⟩ := all3 r op hn 1 hk (way0 r hn 1 (iAluN1 _)) (way1 r hn 1 (iAluB1 _)) (way2 r hn 1 (iAluM1 _)) (way3 r hn 1 (iStepD1 _)) (way4 r hn 1 (iTurn1 _))
    exact lawPath_run (congrFun (congrFun (congrFun law3_path1 r) op) n) e1 e2
  · obtain ⟨e1, e2⟩ := all3 r op hn 2 hk (way0 r hn 2 (iAluN2 _)) (way1 r hn 2 (iAluB2 _)) (way2 r hn 2 (iAluM2 _)) (way3 r hn 2 (iStepD0 _)) (way4 r hn 2 (iTurn2 _))
    exact lawPath_run (congrFun (congrFun (congrFun law3_path2 r) op) n) e1 e2
  · obtain ⟨e1, e2⟩ := all3 r op hn 3 hk (way0 r hn 3 (iAluN3 _)) (way1 r hn 3 (iAluB3 _)) (way2 r hn 3 (iAluM3 _)) (way3 r hn 3 (iStepD1 _)) (way4 r hn 3 (iTurn3 _))
    exact lawPath_run (congrFun (congrFun (congrFun law3_path3 r) op) n) e1 e2
  · obtain ⟨e1, e2⟩ := all3 r op hn 4 hk (way0 r hn 4 (iAluN4 _)) (way1 r hn 4 (iAluB4 _)) (way2 r hn 4 (iAluM4 _)) (way3 r hn 4 (iStepD0 _)) (way4 r hn 4 (iTurn4 _))
    exact lawPath_run (congrFun (congrFun (congrFun law3_path4 r) op) n) e1 e2
  · obtain ⟨e1, e2⟩ := all3 r op hn 5 hk (way0 r hn 5 (iAluN5 _)) (way1 r hn 5 (iAluB5 _)) (way2 r hn 5 (iAluM5 _)) (way3 r hn 5 (iStepD1 _)) (way4 r hn 5 (iTurn5 _))
    exact lawPath_run (congrFun (congrFun (congrFun law3_path5 r) op) n) e1 e2
  · obtain ⟨e1, e2⟩ := all3 r op hn 6 hk (way0 r hn 6 (iAluN6 _)) (way1 r hn 6 (iAluB6 _)) (way2 r hn 6 (iAluM6 _)) (way3 r hn 6 (iStepD0 _)) (way4 r hn 6 (iTurn6 _))
    exact lawPath_run (congrFun (congrFun (congrFun law3_path6 r) op) n) e1 e2
  · obtain ⟨e1, e2⟩ := all3 r op hn 7 hk (way0 r hn 7 (iAluN7 _)) (way1 r hn 7 (iAluB7 _)) (way2 r hn 7 (iAluM7 _)) (way3 r hn 7 (iStepD1 _)) (way4 r hn 7 (iTurn7 _))
    exact lawPath_run (congrFun (congrFun (congrFun law3_path7 r) op) n) e1 e2
end Go.Proofs.YtmlfmkebljdoiaaGreatDoor
