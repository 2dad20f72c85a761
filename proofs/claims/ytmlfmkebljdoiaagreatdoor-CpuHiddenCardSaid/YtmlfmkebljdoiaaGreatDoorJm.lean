/- Own text: the model: jumps. -/
import Derived.Test.YtmlfmkebljdoiaaGreatDoorCj
namespace Go.Proofs.YtmlfmkebljdoiaaGreatDoor
open Go.Ev Go.Ev.Tr Go.Proofs
set_option maxRecDepth 1000000
theorem inst_step {j : Nat} {k : Int} {c : Cpu} {m : Mem} (h : okC c = true) : instrM (j + 1) k c m = bif (stepC c m).mid then instrM j (k + 1) (stepC c m) (stepM c m) else some (k + 1, stepC c m, stepM c m) := by
  conv => lhs; unfold instrM
  rw [h]; rfl
/-- In the midst of an instruction. -/
def X1 (g : Rg) (op : Int) : Cpu := ⟨g, { g with PC := nxt g.PC }, rdW (nxt g.PC), true, false, op, 0, 0, 0, 0, 0, false, false⟩
def X2 (g : Rg) (op low : Int) : Cpu := ⟨g, { g with PC := nxt (nxt g.PC) }, rdW (nxt (nxt g.PC)), true, false, op, 0, 1, low, 0, 0, false, false⟩
def N1 (g : Rg) (op low : Int) : Cpu := ⟨g, { g with PC := nxt (nxt g.PC) }, rdW (nxt g.PC), true, false, op, 0, 1, low, 0, 0, false, false⟩
def N1w (g : Rg) (op low : Int) : Cpu := { N1 g op low with want := idleW }
def N2 (g : Rg) (op low high : Int) : Cpu := ⟨g, { g with PC := nxt (nxt (nxt g.PC)) }, rdW (nxt (nxt g.PC)), true, false, op, 0, 2, low, high, 0, false, false⟩
def N2w (g : Rg) (op low high : Int) : Cpu := { N2 g op low high with want := idleW }
def at1 (m : Mem) (g : Rg) : Int := m (pk16 (nxt g.PC))
def at2 (m : Mem) (g : Rg) : Int := m (pk16 (nxt (nxt g.PC)))
theorem jrA0 : (fun b g m => firstF (z b g) m 32) = (fun b g m => instrM 6 1 (X1 (z b g) 32) m) := by kernel_rfl
theorem jrB0 : (fun g m => stepC (X1 g 32) m) = (fun g m => actEnd (bif holdsM 0 g.F then ⟨N1 g 32 (at1 m g), idleW, false⟩ else ⟨N1 g 32 (at1 m g), idleW, true⟩) 0) := by kernel_rfl
theorem jrC0 : ∀ b, (fun g m low => instrM 5 2 (N1w (z b g) 32 low) m) = (fun g m low => some (3, ofR (z b { g with PC := (nxt (nxt g.PC) + IntKind.i8.wrap low) % 65536 }), m)) := by intro b; cases b <;> kernel_rfl
theorem jrD0 : ∀ b, (fun g low => actEnd ⟨N1 (z b g) 32 low, idleW, true⟩ 0) = (fun g low => ofR (z b { g with PC := nxt (nxt g.PC) })) := by intro b; cases b <;> kernel_rfl
theorem jrT0 (b : Bool) (g : Rg) (m : Mem) (h : holdsM 0 g.F = true) : firstF (z b g) m 32 = some (3, ofR (z b { g with PC := (nxt (nxt g.PC) + IntKind.i8.wrap (at1 m g)) % 65536 }), m) := by
  have e1 : firstF (z b g) m 32 = instrM 6 1 (X1 (z b g) 32) m := congrFun (congrFun (congrFun jrA0 b) g) m
  have e2 : stepC (X1 (z b g) 32) m = N1w (z b g) 32 (at1 m (z b g)) := by
    refine (congrFun (congrFun jrB0 (z b g)) m).trans ?_
    have h' : holdsM 0 (z b g).F = true := h
    simp only [h', cond_true]; rfl
  rw [e1, inst_step (by rfl), e2]
  exact congrFun (congrFun (congrFun (jrC0 b) g) m) (at1 m (z b g))
theorem jrF0 (b : Bool) (g : Rg) (m : Mem) (h : holdsM 0 g.F = false) : firstF (z b g) m 32 = some (2, ofR (z b { g with PC := nxt (nxt g.PC) }), m) := by
  have e1 : firstF (z b g) m 32 = instrM 6 1 (X1 (z b g) 32) m := congrFun (congrFun (congrFun jrA0 b) g) m
  have e2 : stepC (X1 (z b g) 32) m = ofR (z b { g with PC := nxt (nxt g.PC) }) := by
    refine (congrFun (congrFun jrB0 (z b g)) m).trans ?_
    have h' : holdsM 0 (z b g).F = false := h
    simp only [h', cond_false]
    exact congrFun (congrFun (jrD0 b) g) _
  rw [e1, inst_step (by rfl), e2]; rfl
theorem jrA1 : (fun b g m => firstF (z b g) m 40) = (fun b g m => instrM 6 1 (X1 (z b g) 40) m) := by kernel_rfl
theorem jrB1 : (fun g m => stepC (X1 g 40) m) = (fun g m => actEnd (bif holdsM 1 g.F then ⟨N1 g 40 (at1 m g), idleW, false⟩ else ⟨N1 g 40 (at1 m g), idleW, true⟩) 0) := by kernel_rfl
theorem jrC1 : ∀ b, (fun g m low => instrM 5 2 (N1w (z b g) 40 low) m) = (fun g m low => some (3, ofR (z b { g with PC := (nxt (nxt g.PC) + IntKind.i8.wrap low) % 65536 }), m)) := by intro b; cases b <;> kernel_rfl
theorem jrD1 : ∀ b, (fun g low => actEnd ⟨N1 (z b g) 40 low, idleW, true⟩ 0) = (fun g low => ofR (z b { g with PC := nxt (nxt g.PC) })) := by intro b; cases b <;> kernel_rfl
theorem jrT1 (b : Bool) (g : Rg) (m : Mem) (h : holdsM 1 g.F = true) : firstF (z b g) m 40 = some (3, ofR (z b { g with PC := (nxt (nxt g.PC) + IntKind.i8.wrap (at1 m g)) % 65536 }), m) := by
  have e1 : firstF (z b g) m 40 = instrM 6 1 (X1 (z b g) 40) m := congrFun (congrFun (congrFun jrA1 b) g) m
  have e2 : stepC (X1 (z b g) 40) m = N1w (z b g) 40 (at1 m (z b g)) := by
    refine (congrFun (congrFun jrB1 (z b g)) m).trans ?_
    have h' : holdsM 1 (z b g).F = true := h
    simp only [h', cond_true]; rfl
  rw [e1, inst_step (by rfl), e2]
  exact congrFun (congrFun (congrFun (jrC1 b) g) m) (at1 m (z b g))
theorem jrF1 (b : Bool) (g : Rg) (m : Mem) (h : holdsM 1 g.F = false) : firstF (z b g) m 40 = some (2, ofR (z b { g with PC := nxt (nxt g.PC) }), m) := by
  have e1 : firstF (z b g) m 40 = instrM 6 1 (X1 (z b g) 40) m := congrFun (congrFun (congrFun jrA1 b) g) m
  have e2 : stepC (X1 (z b g) 40) m = ofR (z b { g with PC := nxt (nxt g.PC) }) := by
    refine (congrFun (congrFun jrB1 (z b g)) m).trans ?_
    have h' : holdsM 1 (z b g).F = false := h
    simp only [h', cond_false]
    exact congrFun (congrFun (jrD1 b) g) _
  rw [e1, inst_step (by rfl), e2]; rfl
theorem jrA2 : (fun b g m => firstF (z b g) m 48) = (fun b g m => instrM 6 1 (X1 (z b g) 48) m) := by kernel_rfl
theorem jrB2 : (fun g m => stepC (X1 g 48) m) = (fun g m => actEnd (bif holdsM 2 g.F then ⟨N1 g 48 (at1 m g), idleW, false⟩ else ⟨N1 g 48 (at1 m g), idleW, true⟩) 0) := by kernel_rfl
theorem jrC2 : ∀ b, (fun g m low => instrM 5 2 (N1w (z b g) 48 low) m) = (fun g m low => some (3, ofR (z b { g with PC := (nxt (nxt g.PC) + IntKind.i8.wrap low) % 65536 }), m)) := by intro b; cases b <;> kernel_rfl
theorem jrD2 : ∀ b, (fun g low => actEnd ⟨N1 (z b g) 48 low, idleW, true⟩ 0) = (fun g low => ofR (z b { g with PC := nxt (nxt g.PC) })) := by intro b; cases b <;> kernel_rfl
theorem jrT2 (b : Bool) (g : Rg) (m : Mem) (h : holdsM 2 g.F = true) : firstF (z b g) m 48 = some (3, ofR (z b { g with PC := (nxt (nxt g.PC) + IntKind.i8.wrap (at1 m g)) % 65536 }), m) := by
  have e1 : firstF (z b g) m 48 = instrM 6 1 (X1 (z b g) 48) m := congrFun (congrFun (congrFun jrA2 b) g) m
  have e2 : stepC (X1 (z b g) 48) m = N1w (z b g) 48 (at1 m (z b g)) := by
    refine (congrFun (congrFun jrB2 (z b g)) m).trans ?_
    have h' : holdsM 2 (z b g).F = true := h
    simp only [h', cond_true]; rfl
  rw [e1, inst_step (by rfl), e2]
  exact congrFun (congrFun (congrFun (jrC2 b) g) m) (at1 m (z b g))
theorem jrF2 (b : Bool) (g : Rg) (m : Mem) (h : holdsM 2 g.F = false) : firstF (z b g) m 48 = some (2, ofR (z b { g with PC := nxt (nxt g.PC) }), m) := by
  have e1 : firstF (z b g) m 48 = instrM 6 1 (X1 (z b g) 48) m := congrFun (congrFun (congrFun jrA2 b) g) m
  have e2 : stepC (X1 (z b g) 48) m = ofR (z b { g with PC := nxt (nxt g.PC) }) := by
    refine (congrFun (congrFun jrB2 (z b g)) m).trans ?_
    have h' : holdsM 2 (z b g).F = false := h
    simp only [h', cond_false]
    exact congrFun (congrFun (jrD2 b) g) _
  rw [e1, inst_step (by rfl), e2]; rfl
theorem jrA3 : (fun b g m => firstF (z b g) m 56) = (fun b g m => instrM 6 1 (X1 (z b g) 56) m) := by kernel_rfl
theorem jrB3 : (fun g m => stepC (X1 g 56) m) = (fun g m => actEnd (bif holdsM 3 g.F then ⟨N1 g 56 (at1 m g), idleW, false⟩ else ⟨N1 g 56 (at1 m g), idleW, true⟩) 0) := by kernel_rfl
theorem jrC3 : ∀ b, (fun g m low => instrM 5 2 (N1w (z b g) 56 low) m) = (fun g m low => some (3, ofR (z b { g with PC := (nxt (nxt g.PC) + IntKind.i8.wrap low) % 65536 }), m)) := by intro b; cases b <;> kernel_rfl
theorem jrD3 : ∀ b, (fun g low => actEnd ⟨N1 (z b g) 56 low, idleW, true⟩ 0) = (fun g low => ofR (z b { g with PC := nxt (nxt g.PC) })) := by intro b; cases b <;> kernel_rfl
theorem jrT3 (b : Bool) (g : Rg) (m : Mem) (h : holdsM 3 g.F = true) : firstF (z b g) m 56 = some (3, ofR (z b { g with PC := (nxt (nxt g.PC) + IntKind.i8.wrap (at1 m g)) % 65536 }), m) := by
  have e1 : firstF (z b g) m 56 = instrM 6 1 (X1 (z b g) 56) m := congrFun (congrFun (congrFun jrA3 b) g) m
  have e2 : stepC (X1 (z b g) 56) m = N1w (z b g) 56 (at1 m (z b g)) := by
    refine (congrFun (congrFun jrB3 (z b g)) m).trans ?_
    have h' : holdsM 3 (z b g).F = true := h
    simp only [h', cond_true]; rfl
  rw [e1, inst_step (by rfl), e2]
  exact congrFun (congrFun (congrFun (jrC3 b) g) m) (at1 m (z b g))
theorem jrF3 (b : Bool) (g : Rg) (m : Mem) (h : holdsM 3 g.F = false) : firstF (z b g) m 56 = some (2, ofR (z b { g with PC := nxt (nxt g.PC) }), m) := by
  have e1 : firstF (z b g) m 56 = instrM 6 1 (X1 (z b g) 56) m := congrFun (congrFun (congrFun jrA3 b) g) m
  have e2 : stepC (X1 (z b g) 56) m = ofR (z b { g with PC := nxt (nxt g.PC) }) := by
    refine (congrFun (congrFun jrB3 (z b g)) m).trans ?_
    have h' : holdsM 3 (z b g).F = false := h
    simp only [h', cond_false]
    exact congrFun (congrFun (jrD3 b) g) _
  rw [e1, inst_step (by rfl), e2]; rfl
theorem jrA4 : (fun b g m => firstF (z b g) m 24) = (fun b g m => instrM 6 1 (X1 (z b g) 24) m) := by kernel_rfl
theorem jrB4 : (fun g m => stepC (X1 g 24) m) = (fun g m => actEnd ⟨N1 g 24 (at1 m g), idleW, false⟩ 0) := by kernel_rfl
theorem jrC4 : ∀ b, (fun g m low => instrM 5 2 (N1w (z b g) 24 low) m) = (fun g m low => some (3, ofR (z b { g with PC := (nxt (nxt g.PC) + IntKind.i8.wrap low) % 65536 }), m)) := by intro b; cases b <;> kernel_rfl
theorem jrD4 : ∀ b, (fun g low => actEnd ⟨N1 (z b g) 24 low, idleW, true⟩ 0) = (fun g low => ofR (z b { g with PC := nxt (nxt g.PC) })) := by intro b; cases b <;> kernel_rfl
theorem jrT4 (b : Bool) (g : Rg) (m : Mem) : firstF (z b g) m 24 = some (3, ofR (z b { g with PC := (nxt (nxt g.PC) + IntKind.i8.wrap (at1 m g)) % 65536 }), m) := by
  have e1 : firstF (z b g) m 24 = instrM 6 1 (X1 (z b g) 24) m := congrFun (congrFun (congrFun jrA4 b) g) m
  have e2 : stepC (X1 (z b g) 24) m = N1w (z b g) 24 (at1 m (z b g)) := (congrFun (congrFun jrB4 (z b g)) m).trans rfl
  rw [e1, inst_step (by rfl), e2]
  exact congrFun (congrFun (congrFun (jrC4 b) g) m) (at1 m (z b g))
theorem jpA0 : (fun b g m => firstF (z b g) m 194) = (fun b g m => instrM 5 2 (X2 (z b g) 194 (at1 m g)) m) := by kernel_rfl
theorem jpB0 : (fun g m low => stepC (X2 g 194 low) m) = (fun g m low => actEnd ⟨N2 g 194 low (at2 m g), idleW, !holdsM 0 g.F⟩ 0) := by kernel_rfl
theorem jpC0 : ∀ b, (fun g m low high => instrM 4 3 (N2w (z b g) 194 low high) m) = (fun g m low high => some (4, ofR (z b { g with PC := orf (high * 256) low }), m)) := by intro b; cases b <;> kernel_rfl
theorem jpD0 : ∀ b, (fun g low high => actEnd ⟨N2 (z b g) 194 low high, idleW, true⟩ 0) = (fun g low high => ofR (z b { g with PC := nxt (nxt (nxt g.PC)) })) := by intro b; cases b <;> kernel_rfl
theorem jpT0 (b : Bool) (g : Rg) (m : Mem) (h : holdsM 0 g.F = true) : firstF (z b g) m 194 = some (4, ofR (z b { g with PC := orf (at2 m g * 256) (at1 m g) }), m) := by
  have e1 : firstF (z b g) m 194 = instrM 5 2 (X2 (z b g) 194 (at1 m g)) m := congrFun (congrFun (congrFun jpA0 b) g) m
  have e2 : stepC (X2 (z b g) 194 (at1 m g)) m = N2w (z b g) 194 (at1 m g) (at2 m (z b g)) := by
    refine (congrFun (congrFun (congrFun jpB0 (z b g)) m) (at1 m g)).trans ?_
    have h' : holdsM 0 (z b g).F = true := h
    simp only [h', Bool.not_true]; rfl
  rw [e1, inst_step (by rfl), e2]
  exact congrFun (congrFun (congrFun (congrFun (jpC0 b) g) m) (at1 m g)) (at2 m (z b g))
theorem jpF0 (b : Bool) (g : Rg) (m : Mem) (h : holdsM 0 g.F = false) : firstF (z b g) m 194 = some (3, ofR (z b { g with PC := nxt (nxt (nxt g.PC)) }), m) := by
  have e1 : firstF (z b g) m 194 = instrM 5 2 (X2 (z b g) 194 (at1 m g)) m := congrFun (congrFun (congrFun jpA0 b) g) m
  have e2 : stepC (X2 (z b g) 194 (at1 m g)) m = ofR (z b { g with PC := nxt (nxt (nxt g.PC)) }) := by
    refine (congrFun (congrFun (congrFun jpB0 (z b g)) m) (at1 m g)).trans ?_
    have h' : holdsM 0 (z b g).F = false := h
    simp only [h', Bool.not_false]
    exact congrFun (congrFun (congrFun (jpD0 b) g) _) _
  rw [e1, inst_step (by rfl), e2]; rfl
theorem jpA1 : (fun b g m => firstF (z b g) m 202) = (fun b g m => instrM 5 2 (X2 (z b g) 202 (at1 m g)) m) := by kernel_rfl
theorem jpB1 : (fun g m low => stepC (X2 g 202 low) m) = (fun g m low => actEnd ⟨N2 g 202 low (at2 m g), idleW, !holdsM 1 g.F⟩ 0) := by kernel_rfl
theorem jpC1 : ∀ b, (fun g m low high => instrM 4 3 (N2w (z b g) 202 low high) m) = (fun g m low high => some (4, ofR (z b { g with PC := orf (high * 256) low }), m)) := by intro b; cases b <;> kernel_rfl
theorem jpD1 : ∀ b, (fun g low high => actEnd ⟨N2 (z b g) 202 low high, idleW, true⟩ 0) = (fun g low high => ofR (z b { g with PC := nxt (nxt (nxt g.PC)) })) := by intro b; cases b <;> kernel_rfl
theorem jpT1 (b : Bool) (g : Rg) (m : Mem) (h : holdsM 1 g.F = true) : firstF (z b g) m 202 = some (4, ofR (z b { g with PC := orf (at2 m g * 256) (at1 m g) }), m) := by
  have e1 : firstF (z b g) m 202 = instrM 5 2 (X2 (z b g) 202 (at1 m g)) m := congrFun (congrFun (congrFun jpA1 b) g) m
  have e2 : stepC (X2 (z b g) 202 (at1 m g)) m = N2w (z b g) 202 (at1 m g) (at2 m (z b g)) := by
    refine (congrFun (congrFun (congrFun jpB1 (z b g)) m) (at1 m g)).trans ?_
    have h' : holdsM 1 (z b g).F = true := h
    simp only [h', Bool.not_true]; rfl
  rw [e1, inst_step (by rfl), e2]
  exact congrFun (congrFun (congrFun (congrFun (jpC1 b) g) m) (at1 m g)) (at2 m (z b g))
theorem jpF1 (b : Bool) (g : Rg) (m : Mem) (h : holdsM 1 g.F = false) : firstF (z b g) m 202 = some (3, ofR (z b { g with PC := nxt (nxt (nxt g.PC)) }), m) := by
  have e1 : firstF (z b g) m 202 = instrM 5 2 (X2 (z b g) 202 (at1 m g)) m := congrFun (congrFun (congrFun jpA1 b) g) m
  have e2 : stepC (X2 (z b g) 202 (at1 m g)) m = ofR (z b { g with PC := nxt (nxt (nxt g.PC)) }) := by
    refine (congrFun (congrFun (congrFun jpB1 (z b g)) m) (at1 m g)).trans ?_
    have h' : holdsM 1 (z b g).F = false := h
    simp only [h', Bool.not_false]
    exact congrFun (congrFun (congrFun (jpD1 b) g) _) _
  rw [e1, inst_step (by rfl), e2]; rfl
theorem jpA2 : (fun b g m => firstF (z b g) m 210) = (fun b g m => instrM 5 2 (X2 (z b g) 210 (at1 m g)) m) := by kernel_rfl
theorem jpB2 : (fun g m low => stepC (X2 g 210 low) m) = (fun g m low => actEnd ⟨N2 g 210 low (at2 m g), idleW, !holdsM 2 g.F⟩ 0) := by kernel_rfl
theorem jpC2 : ∀ b, (fun g m low high => instrM 4 3 (N2w (z b g) 210 low high) m) = (fun g m low high => some (4, ofR (z b { g with PC := orf (high * 256) low }), m)) := by intro b; cases b <;> kernel_rfl
theorem jpD2 : ∀ b, (fun g low high => actEnd ⟨N2 (z b g) 210 low high, idleW, true⟩ 0) = (fun g low high => ofR (z b { g with PC := nxt (nxt (nxt g.PC)) })) := by intro b; cases b <;> kernel_rfl
theorem jpT2 (b : Bool) (g : Rg) (m : Mem) (h : holdsM 2 g.F = true) : firstF (z b g) m 210 = some (4, ofR (z b { g with PC := orf (at2 m g * 256) (at1 m g) }), m) := by
  have e1 : firstF (z b g) m 210 = instrM 5 2 (X2 (z b g) 210 (at1 m g)) m := congrFun (congrFun (congrFun jpA2 b) g) m
  have e2 : stepC (X2 (z b g) 210 (at1 m g)) m = N2w (z b g) 210 (at1 m g) (at2 m (z b g)) := by
    refine (congrFun (congrFun (congrFun jpB2 (z b g)) m) (at1 m g)).trans ?_
    have h' : holdsM 2 (z b g).F = true := h
    simp only [h', Bool.not_true]; rfl
  rw [e1, inst_step (by rfl), e2]
  exact congrFun (congrFun (congrFun (congrFun (jpC2 b) g) m) (at1 m g)) (at2 m (z b g))
theorem jpF2 (b : Bool) (g : Rg) (m : Mem) (h : holdsM 2 g.F = false) : firstF (z b g) m 210 = some (3, ofR (z b { g with PC := nxt (nxt (nxt g.PC)) }), m) := by
  have e1 : firstF (z b g) m 210 = instrM 5 2 (X2 (z b g) 210 (at1 m g)) m := congrFun (congrFun (congrFun jpA2 b) g) m
  have e2 : stepC (X2 (z b g) 210 (at1 m g)) m = ofR (z b { g with PC := nxt (nxt (nxt g.PC)) }) := by
    refine (congrFun (congrFun (congrFun jpB2 (z b g)) m) (at1 m g)).trans ?_
    have h' : holdsM 2 (z b g).F = false := h
    simp only [h', Bool.not_false]
    exact congrFun (congrFun (congrFun (jpD2 b) g) _) _
  rw [e1, inst_step (by rfl), e2]; rfl
theorem jpA3 : (fun b g m => firstF (z b g) m 218) = (fun b g m => instrM 5 2 (X2 (z b g) 218 (at1 m g)) m) := by kernel_rfl
theorem jpB3 : (fun g m low => stepC (X2 g 218 low) m) = (fun g m low => actEnd ⟨N2 g 218 low (at2 m g), idleW, !holdsM 3 g.F⟩ 0) := by kernel_rfl
theorem jpC3 : ∀ b, (fun g m low high => instrM 4 3 (N2w (z b g) 218 low high) m) = (fun g m low high => some (4, ofR (z b { g with PC := orf (high * 256) low }), m)) := by intro b; cases b <;> kernel_rfl
theorem jpD3 : ∀ b, (fun g low high => actEnd ⟨N2 (z b g) 218 low high, idleW, true⟩ 0) = (fun g low high => ofR (z b { g with PC := nxt (nxt (nxt g.PC)) })) := by intro b; cases b <;> kernel_rfl
theorem jpT3 (b : Bool) (g : Rg) (m : Mem) (h : holdsM 3 g.F = true) : firstF (z b g) m 218 = some (4, ofR (z b { g with PC := orf (at2 m g * 256) (at1 m g) }), m) := by
  have e1 : firstF (z b g) m 218 = instrM 5 2 (X2 (z b g) 218 (at1 m g)) m := congrFun (congrFun (congrFun jpA3 b) g) m
  have e2 : stepC (X2 (z b g) 218 (at1 m g)) m = N2w (z b g) 218 (at1 m g) (at2 m (z b g)) := by
    refine (congrFun (congrFun (congrFun jpB3 (z b g)) m) (at1 m g)).trans ?_
    have h' : holdsM 3 (z b g).F = true := h
    simp only [h', Bool.not_true]; rfl
  rw [e1, inst_step (by rfl), e2]
  exact congrFun (congrFun (congrFun (congrFun (jpC3 b) g) m) (at1 m g)) (at2 m (z b g))
theorem jpF3 (b : Bool) (g : Rg) (m : Mem) (h : holdsM 3 g.F = false) : firstF (z b g) m 218 = some (3, ofR (z b { g with PC := nxt (nxt (nxt g.PC)) }), m) := by
  have e1 : firstF (z b g) m 218 = instrM 5 2 (X2 (z b g) 218 (at1 m g)) m := congrFun (congrFun (congrFun jpA3 b) g) m
  have e2 : stepC (X2 (z b g) 218 (at1 m g)) m = ofR (z b { g with PC := nxt (nxt (nxt g.PC)) }) := by
    refine (congrFun (congrFun (congrFun jpB3 (z b g)) m) (at1 m g)).trans ?_
    have h' : holdsM 3 (z b g).F = false := h
    simp only [h', Bool.not_false]
    exact congrFun (congrFun (congrFun (jpD3 b) g) _) _
  rw [e1, inst_step (by rfl), e2]; rfl
theorem jpA4 : (fun b g m => firstF (z b g) m 195) = (fun b g m => instrM 5 2 (X2 (z b g) 195 (at1 m g)) m) := by kernel_rfl
theorem jpB4 : (fun g m low => stepC (X2 g 195 low) m) = (fun g m low => actEnd ⟨N2 g 195 low (at2 m g), idleW, false⟩ 0) := by kernel_rfl
theorem jpC4 : ∀ b, (fun g m low high => instrM 4 3 (N2w (z b g) 195 low high) m) = (fun g m low high => some (4, ofR (z b { g with PC := orf (high * 256) low }), m)) := by intro b; cases b <;> kernel_rfl
theorem jpD4 : ∀ b, (fun g low high => actEnd ⟨N2 (z b g) 195 low high, idleW, true⟩ 0) = (fun g low high => ofR (z b { g with PC := nxt (nxt (nxt g.PC)) })) := by intro b; cases b <;> kernel_rfl
theorem jpT4 (b : Bool) (g : Rg) (m : Mem) : firstF (z b g) m 195 = some (4, ofR (z b { g with PC := orf (at2 m g * 256) (at1 m g) }), m) := by
  have e1 : firstF (z b g) m 195 = instrM 5 2 (X2 (z b g) 195 (at1 m g)) m := congrFun (congrFun (congrFun jpA4 b) g) m
  have e2 : stepC (X2 (z b g) 195 (at1 m g)) m = N2w (z b g) 195 (at1 m g) (at2 m (z b g)) := by
    refine (congrFun (congrFun (congrFun jpB4 (z b g)) m) (at1 m g)).trans ?_
    rfl
  rw [e1, inst_step (by rfl), e2]
  exact congrFun (congrFun (congrFun (congrFun (jpC4 b) g) m) (at1 m g)) (at2 m (z b g))
theorem i233 : ∀ b, (fun g m => firstF (z b g) m 233) = (fun g m => some (1, ofR (z b { g with PC := hlM g }), m)) := by intro b; cases b <;> kernel_rfl
end Go.Proofs.YtmlfmkebljdoiaaGreatDoor
