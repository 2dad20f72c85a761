/- Own text: the model: calls and returns. -/
import Derived.Test.YtmlfmkebljdoiaaGreatDoorJm
namespace Go.Proofs.YtmlfmkebljdoiaaGreatDoor
open Go.Ev Go.Ev.Tr Go.Proofs
set_option maxRecDepth 1000000
/-- Two bytes on the stack. -/
def psh (m : Mem) (sp v : Int) : Mem := wrM (wrM m ((sp - 1) % 65536) (v / 256)) ((sp - 2) % 65536) (v % 256)
theorem ret : ∀ b, (fun g m => firstF (z b g) m 201) = (fun g m => some (4, ofR (z b { g with PC := orf (m (pk16 ((g.SP + 1) % 65536)) * 256) (m (pk16 g.SP)), SP := (g.SP + 2) % 65536 }), m)) := by intro b; cases b <;> kernel_rfl
theorem inc60 : ∀ b, (fun g m => firstF (z b g) m 60) = (fun g m => some (1, ofR (z b { g with A := stepV g 0 g.A 0, F := stepV g 0 g.A 1, PC := nxt g.PC }), m)) := by intro b; cases b <;> kernel_rfl
theorem inc4 : ∀ b, (fun g m => firstF (z b g) m 4) = (fun g m => some (1, ofR (z b { g with B := stepV g 0 g.B 0, F := stepV g 0 g.B 1, PC := nxt g.PC }), m)) := by intro b; cases b <;> kernel_rfl
def view0 (r : AEnd × Hp) : Option (Int × Int) := match r.1 with
  | .ret (.tup [.int _ a, .int _ b]) => some (a.n, b.n)
  | _ => none
theorem inc_ev : (fun x F => ((call0 ro0 22 [.int .i64 (I.lit 0), kb .u8 x, kb .u8 F] (startHp 2 1000000)).bind fun r => T.ofOpt (view2 r)).run) = (fun x F =>
  bif ((x + 1) % 256) == 0 then (bif ((x + 1) % 256) % 16 == 0 then (bif !(andf F 16 == 0) then some ((x + 1) % 256, 176) else some ((x + 1) % 256, 160)) else (bif !(andf F 16 == 0) then some ((x + 1) % 256, 144) else some ((x + 1) % 256, 128)))
  else (bif ((x + 1) % 256) % 16 == 0 then (bif !(andf F 16 == 0) then some ((x + 1) % 256, 48) else some ((x + 1) % 256, 32)) else (bif !(andf F 16 == 0) then some ((x + 1) % 256, 16) else some ((x + 1) % 256, 0)))) := by kernel_rfl
theorem inc_eq (g : Rg) (x : Int) : stepV g 0 x 0 = (x + 1) % 256 := by
  have hev := congrFun (congrFun inc_ev x) g.F
  unfold stepV
  cases h1 : ((x + 1) % 256) == 0 <;> cases h2 : ((x + 1) % 256) % 16 == 0 <;> cases h3 : !(andf g.F 16 == 0) <;> simp only [h1, h2, h3, cond_true, cond_false] at hev <;> exact (alu2_of hev).1
theorem clA0 : (fun b g m => firstF (z b g) m 196) = (fun b g m => instrM 5 2 (X2 (z b g) 196 (at1 m g)) m) := by kernel_rfl
theorem clB0 : (fun g m low => stepC (X2 g 196 low) m) = (fun g m low => actEnd (bif !holdsM 0 g.F then ⟨N2 g 196 low (at2 m g), idleW, true⟩ else ⟨N2 g 196 low (at2 m g), idleW, false⟩) 0) := by kernel_rfl
theorem clC0 : ∀ b, (fun g m low high => instrM 4 3 (N2w (z b g) 196 low high) m) = (fun g m low high => some (6, ofR (z b { g with PC := orf (high * 256) low, SP := (g.SP - 2) % 65536 }), psh m g.SP (nxt (nxt (nxt g.PC))))) := by intro b; cases b <;> kernel_rfl
theorem clD0 : ∀ b, (fun g low high => actEnd ⟨N2 (z b g) 196 low high, idleW, true⟩ 0) = (fun g _ _ => ofR (z b { g with PC := nxt (nxt (nxt g.PC)) })) := by intro b; cases b <;> kernel_rfl
theorem clS0 : (fun b g m low => stepM (X2 (z b g) 196 low) m) = (fun _ _ m _ => m) := by kernel_rfl
theorem clT0 (b : Bool) (g : Rg) (m : Mem) (h : holdsM 0 g.F = true) : firstF (z b g) m 196 = some (6, ofR (z b { g with PC := orf (at2 m g * 256) (at1 m g), SP := (g.SP - 2) % 65536 }), psh m g.SP (nxt (nxt (nxt g.PC)))) := by
  have e1 : firstF (z b g) m 196 = instrM 5 2 (X2 (z b g) 196 (at1 m g)) m := congrFun (congrFun (congrFun clA0 b) g) m
  have e2 : stepC (X2 (z b g) 196 (at1 m g)) m = N2w (z b g) 196 (at1 m g) (at2 m (z b g)) := by
    refine (congrFun (congrFun (congrFun clB0 (z b g)) m) (at1 m g)).trans ?_
    have h' : holdsM 0 (z b g).F = true := h
    simp only [h', Bool.not_true]; rfl
  have e3 : ∀ low high, instrM 4 3 (N2w (z b g) 196 low high) m = some (6, ofR (z b { g with PC := orf (high * 256) low, SP := (g.SP - 2) % 65536 }), psh m g.SP (nxt (nxt (nxt g.PC)))) := fun low high => congrFun (congrFun (congrFun (congrFun (clC0 b) g) m) low) high
  have e4 : instrM 5 2 (X2 (z b g) 196 (at1 m g)) m = instrM 4 3 (N2w (z b g) 196 (at1 m g) (at2 m g)) m := by
    have e5 : stepM (X2 (z b g) 196 (at1 m g)) m = m := congrFun (congrFun (congrFun (congrFun clS0 b) g) m) (at1 m g)
    have e6 : (N2w (z b g) 196 (at1 m g) (at2 m (z b g))).mid = true := rfl
    rw [inst_step (by rfl), e2, e5, e6]
    exact cond_true _ _
  rw [e1, e4]; exact e3 _ _
theorem clF0 (b : Bool) (g : Rg) (m : Mem) (h : holdsM 0 g.F = false) : firstF (z b g) m 196 = some (3, ofR (z b { g with PC := nxt (nxt (nxt g.PC)) }), m) := by
  have e1 : firstF (z b g) m 196 = instrM 5 2 (X2 (z b g) 196 (at1 m g)) m := congrFun (congrFun (congrFun clA0 b) g) m
  have e2 : stepC (X2 (z b g) 196 (at1 m g)) m = ofR (z b { g with PC := nxt (nxt (nxt g.PC)) }) := by
    refine (congrFun (congrFun (congrFun clB0 (z b g)) m) (at1 m g)).trans ?_
    have h' : holdsM 0 (z b g).F = false := h
    simp only [h', Bool.not_false]
    exact congrFun (congrFun (congrFun (clD0 b) g) _) _
  rw [e1, inst_step (by rfl), e2]; rfl
theorem clA1 : (fun b g m => firstF (z b g) m 204) = (fun b g m => instrM 5 2 (X2 (z b g) 204 (at1 m g)) m) := by kernel_rfl
theorem clB1 : (fun g m low => stepC (X2 g 204 low) m) = (fun g m low => actEnd (bif !holdsM 1 g.F then ⟨N2 g 204 low (at2 m g), idleW, true⟩ else ⟨N2 g 204 low (at2 m g), idleW, false⟩) 0) := by kernel_rfl
theorem clC1 : ∀ b, (fun g m low high => instrM 4 3 (N2w (z b g) 204 low high) m) = (fun g m low high => some (6, ofR (z b { g with PC := orf (high * 256) low, SP := (g.SP - 2) % 65536 }), psh m g.SP (nxt (nxt (nxt g.PC))))) := by intro b; cases b <;> kernel_rfl
theorem clD1 : ∀ b, (fun g low high => actEnd ⟨N2 (z b g) 204 low high, idleW, true⟩ 0) = (fun g _ _ => ofR (z b { g with PC := nxt (nxt (nxt g.PC)) })) := by intro b; cases b <;> kernel_rfl
theorem clS1 : (fun b g m low => stepM (X2 (z b g) 204 low) m) = (fun _ _ m _ => m) := by kernel_rfl
theorem clT1 (b : Bool) (g : Rg) (m : Mem) (h : holdsM 1 g.F = true) : firstF (z b g) m 204 = some (6, ofR (z b { g with PC := orf (at2 m g * 256) (at1 m g), SP := (g.SP - 2) % 65536 }), psh m g.SP (nxt (nxt (nxt g.PC)))) := by
  have e1 : firstF (z b g) m 204 = instrM 5 2 (X2 (z b g) 204 (at1 m g)) m := congrFun (congrFun (congrFun clA1 b) g) m
  have e2 : stepC (X2 (z b g) 204 (at1 m g)) m = N2w (z b g) 204 (at1 m g) (at2 m (z b g)) := by
    refine (congrFun (congrFun (congrFun clB1 (z b g)) m) (at1 m g)).trans ?_
    have h' : holdsM 1 (z b g).F = true := h
    simp only [h', Bool.not_true]; rfl
  have e3 : ∀ low high, instrM 4 3 (N2w (z b g) 204 low high) m = some (6, ofR (z b { g with PC := orf (high * 256) low, SP := (g.SP - 2) % 65536 }), psh m g.SP (nxt (nxt (nxt g.PC)))) := fun low high => congrFun (congrFun (congrFun (congrFun (clC1 b) g) m) low) high
  have e4 : instrM 5 2 (X2 (z b g) 204 (at1 m g)) m = instrM 4 3 (N2w (z b g) 204 (at1 m g) (at2 m g)) m := by
    have e5 : stepM (X2 (z b g) 204 (at1 m g)) m = m := congrFun (congrFun (congrFun (congrFun clS1 b) g) m) (at1 m g)
    have e6 : (N2w (z b g) 204 (at1 m g) (at2 m (z b g))).mid = true := rfl
    rw [inst_step (by rfl), e2, e5, e6]
    exact cond_true _ _
  rw [e1, e4]; exact e3 _ _
theorem clF1 (b : Bool) (g : Rg) (m : Mem) (h : holdsM 1 g.F = false) : firstF (z b g) m 204 = some (3, ofR (z b { g with PC := nxt (nxt (nxt g.PC)) }), m) := by
  have e1 : firstF (z b g) m 204 = instrM 5 2 (X2 (z b g) 204 (at1 m g)) m := congrFun (congrFun (congrFun clA1 b) g) m
  have e2 : stepC (X2 (z b g) 204 (at1 m g)) m = ofR (z b { g with PC := nxt (nxt (nxt g.PC)) }) := by
    refine (congrFun (congrFun (congrFun clB1 (z b g)) m) (at1 m g)).trans ?_
    have h' : holdsM 1 (z b g).F = false := h
    simp only [h', Bool.not_false]
    exact congrFun (congrFun (congrFun (clD1 b) g) _) _
  rw [e1, inst_step (by rfl), e2]; rfl
theorem clA2 : (fun b g m => firstF (z b g) m 212) = (fun b g m => instrM 5 2 (X2 (z b g) 212 (at1 m g)) m) := by kernel_rfl
theorem clB2 : (fun g m low => stepC (X2 g 212 low) m) = (fun g m low => actEnd (bif !holdsM 2 g.F then ⟨N2 g 212 low (at2 m g), idleW, true⟩ else ⟨N2 g 212 low (at2 m g), idleW, false⟩) 0) := by kernel_rfl
theorem clC2 : ∀ b, (fun g m low high => instrM 4 3 (N2w (z b g) 212 low high) m) = (fun g m low high => some (6, ofR (z b { g with PC := orf (high * 256) low, SP := (g.SP - 2) % 65536 }), psh m g.SP (nxt (nxt (nxt g.PC))))) := by intro b; cases b <;> kernel_rfl
theorem clD2 : ∀ b, (fun g low high => actEnd ⟨N2 (z b g) 212 low high, idleW, true⟩ 0) = (fun g _ _ => ofR (z b { g with PC := nxt (nxt (nxt g.PC)) })) := by intro b; cases b <;> kernel_rfl
theorem clS2 : (fun b g m low => stepM (X2 (z b g) 212 low) m) = (fun _ _ m _ => m) := by kernel_rfl
theorem clT2 (b : Bool) (g : Rg) (m : Mem) (h : holdsM 2 g.F = true) : firstF (z b g) m 212 = some (6, ofR (z b { g with PC := orf (at2 m g * 256) (at1 m g), SP := (g.SP - 2) % 65536 }), psh m g.SP (nxt (nxt (nxt g.PC)))) := by
  have e1 : firstF (z b g) m 212 = instrM 5 2 (X2 (z b g) 212 (at1 m g)) m := congrFun (congrFun (congrFun clA2 b) g) m
  have e2 : stepC (X2 (z b g) 212 (at1 m g)) m = N2w (z b g) 212 (at1 m g) (at2 m (z b g)) := by
    refine (congrFun (congrFun (congrFun clB2 (z b g)) m) (at1 m g)).trans ?_
    have h' : holdsM 2 (z b g).F = true := h
    simp only [h', Bool.not_true]; rfl
  have e3 : ∀ low high, instrM 4 3 (N2w (z b g) 212 low high) m = some (6, ofR (z b { g with PC := orf (high * 256) low, SP := (g.SP - 2) % 65536 }), psh m g.SP (nxt (nxt (nxt g.PC)))) := fun low high => congrFun (congrFun (congrFun (congrFun (clC2 b) g) m) low) high
  have e4 : instrM 5 2 (X2 (z b g) 212 (at1 m g)) m = instrM 4 3 (N2w (z b g) 212 (at1 m g) (at2 m g)) m := by
    have e5 : stepM (X2 (z b g) 212 (at1 m g)) m = m := congrFun (congrFun (congrFun (congrFun clS2 b) g) m) (at1 m g)
    have e6 : (N2w (z b g) 212 (at1 m g) (at2 m (z b g))).mid = true := rfl
    rw [inst_step (by rfl), e2, e5, e6]
    exact cond_true _ _
  rw [e1, e4]; exact e3 _ _
theorem clF2 (b : Bool) (g : Rg) (m : Mem) (h : holdsM 2 g.F = false) : firstF (z b g) m 212 = some (3, ofR (z b { g with PC := nxt (nxt (nxt g.PC)) }), m) := by
  have e1 : firstF (z b g) m 212 = instrM 5 2 (X2 (z b g) 212 (at1 m g)) m := congrFun (congrFun (congrFun clA2 b) g) m
  have e2 : stepC (X2 (z b g) 212 (at1 m g)) m = ofR (z b { g with PC := nxt (nxt (nxt g.PC)) }) := by
    refine (congrFun (congrFun (congrFun clB2 (z b g)) m) (at1 m g)).trans ?_
    have h' : holdsM 2 (z b g).F = false := h
    simp only [h', Bool.not_false]
    exact congrFun (congrFun (congrFun (clD2 b) g) _) _
  rw [e1, inst_step (by rfl), e2]; rfl
theorem clA3 : (fun b g m => firstF (z b g) m 220) = (fun b g m => instrM 5 2 (X2 (z b g) 220 (at1 m g)) m) := by kernel_rfl
theorem clB3 : (fun g m low => stepC (X2 g 220 low) m) = (fun g m low => actEnd (bif !holdsM 3 g.F then ⟨N2 g 220 low (at2 m g), idleW, true⟩ else ⟨N2 g 220 low (at2 m g), idleW, false⟩) 0) := by kernel_rfl
theorem clC3 : ∀ b, (fun g m low high => instrM 4 3 (N2w (z b g) 220 low high) m) = (fun g m low high => some (6, ofR (z b { g with PC := orf (high * 256) low, SP := (g.SP - 2) % 65536 }), psh m g.SP (nxt (nxt (nxt g.PC))))) := by intro b; cases b <;> kernel_rfl
theorem clD3 : ∀ b, (fun g low high => actEnd ⟨N2 (z b g) 220 low high, idleW, true⟩ 0) = (fun g _ _ => ofR (z b { g with PC := nxt (nxt (nxt g.PC)) })) := by intro b; cases b <;> kernel_rfl
theorem clS3 : (fun b g m low => stepM (X2 (z b g) 220 low) m) = (fun _ _ m _ => m) := by kernel_rfl
theorem clT3 (b : Bool) (g : Rg) (m : Mem) (h : holdsM 3 g.F = true) : firstF (z b g) m 220 = some (6, ofR (z b { g with PC := orf (at2 m g * 256) (at1 m g), SP := (g.SP - 2) % 65536 }), psh m g.SP (nxt (nxt (nxt g.PC)))) := by
  have e1 : firstF (z b g) m 220 = instrM 5 2 (X2 (z b g) 220 (at1 m g)) m := congrFun (congrFun (congrFun clA3 b) g) m
  have e2 : stepC (X2 (z b g) 220 (at1 m g)) m = N2w (z b g) 220 (at1 m g) (at2 m (z b g)) := by
    refine (congrFun (congrFun (congrFun clB3 (z b g)) m) (at1 m g)).trans ?_
    have h' : holdsM 3 (z b g).F = true := h
    simp only [h', Bool.not_true]; rfl
  have e3 : ∀ low high, instrM 4 3 (N2w (z b g) 220 low high) m = some (6, ofR (z b { g with PC := orf (high * 256) low, SP := (g.SP - 2) % 65536 }), psh m g.SP (nxt (nxt (nxt g.PC)))) := fun low high => congrFun (congrFun (congrFun (congrFun (clC3 b) g) m) low) high
  have e4 : instrM 5 2 (X2 (z b g) 220 (at1 m g)) m = instrM 4 3 (N2w (z b g) 220 (at1 m g) (at2 m g)) m := by
    have e5 : stepM (X2 (z b g) 220 (at1 m g)) m = m := congrFun (congrFun (congrFun (congrFun clS3 b) g) m) (at1 m g)
    have e6 : (N2w (z b g) 220 (at1 m g) (at2 m (z b g))).mid = true := rfl
    rw [inst_step (by rfl), e2, e5, e6]
    exact cond_true _ _
  rw [e1, e4]; exact e3 _ _
theorem clF3 (b : Bool) (g : Rg) (m : Mem) (h : holdsM 3 g.F = false) : firstF (z b g) m 220 = some (3, ofR (z b { g with PC := nxt (nxt (nxt g.PC)) }), m) := by
  have e1 : firstF (z b g) m 220 = instrM 5 2 (X2 (z b g) 220 (at1 m g)) m := congrFun (congrFun (congrFun clA3 b) g) m
  have e2 : stepC (X2 (z b g) 220 (at1 m g)) m = ofR (z b { g with PC := nxt (nxt (nxt g.PC)) }) := by
    refine (congrFun (congrFun (congrFun clB3 (z b g)) m) (at1 m g)).trans ?_
    have h' : holdsM 3 (z b g).F = false := h
    simp only [h', Bool.not_false]
    exact congrFun (congrFun (congrFun (clD3 b) g) _) _
  rw [e1, inst_step (by rfl), e2]; rfl
theorem clA4 : (fun b g m => firstF (z b g) m 205) = (fun b g m => instrM 5 2 (X2 (z b g) 205 (at1 m g)) m) := by kernel_rfl
theorem clB4 : (fun g m low => stepC (X2 g 205 low) m) = (fun g m low => actEnd ⟨N2 g 205 low (at2 m g), idleW, false⟩ 0) := by kernel_rfl
theorem clC4 : ∀ b, (fun g m low high => instrM 4 3 (N2w (z b g) 205 low high) m) = (fun g m low high => some (6, ofR (z b { g with PC := orf (high * 256) low, SP := (g.SP - 2) % 65536 }), psh m g.SP (nxt (nxt (nxt g.PC))))) := by intro b; cases b <;> kernel_rfl
theorem clS4 : (fun b g m low => stepM (X2 (z b g) 205 low) m) = (fun _ _ m _ => m) := by kernel_rfl
theorem clT4 (b : Bool) (g : Rg) (m : Mem) : firstF (z b g) m 205 = some (6, ofR (z b { g with PC := orf (at2 m g * 256) (at1 m g), SP := (g.SP - 2) % 65536 }), psh m g.SP (nxt (nxt (nxt g.PC)))) := by
  have e1 : firstF (z b g) m 205 = instrM 5 2 (X2 (z b g) 205 (at1 m g)) m := congrFun (congrFun (congrFun clA4 b) g) m
  have e2 : stepC (X2 (z b g) 205 (at1 m g)) m = N2w (z b g) 205 (at1 m g) (at2 m (z b g)) := by
    refine (congrFun (congrFun (congrFun clB4 (z b g)) m) (at1 m g)).trans ?_
    rfl
  have e3 : ∀ low high, instrM 4 3 (N2w (z b g) 205 low high) m = some (6, ofR (z b { g with PC := orf (high * 256) low, SP := (g.SP - 2) % 65536 }), psh m g.SP (nxt (nxt (nxt g.PC)))) := fun low high => congrFun (congrFun (congrFun (congrFun (clC4 b) g) m) low) high
  have e4 : instrM 5 2 (X2 (z b g) 205 (at1 m g)) m = instrM 4 3 (N2w (z b g) 205 (at1 m g) (at2 m g)) m := by
    have e5 : stepM (X2 (z b g) 205 (at1 m g)) m = m := congrFun (congrFun (congrFun (congrFun clS4 b) g) m) (at1 m g)
    have e6 : (N2w (z b g) 205 (at1 m g) (at2 m (z b g))).mid = true := rfl
    rw [inst_step (by rfl), e2, e5, e6]
    exact cond_true _ _
  rw [e1, e4]; exact e3 _ _
theorem rst0 : ∀ b, (fun g m => firstF (z b g) m 199) = (fun g m => some (4, ofR (z b { g with PC := 0, SP := (g.SP - 2) % 65536 }), psh m g.SP (nxt g.PC))) := by intro b; cases b <;> kernel_rfl
theorem rst1 : ∀ b, (fun g m => firstF (z b g) m 207) = (fun g m => some (4, ofR (z b { g with PC := 8, SP := (g.SP - 2) % 65536 }), psh m g.SP (nxt g.PC))) := by intro b; cases b <;> kernel_rfl
theorem rst2 : ∀ b, (fun g m => firstF (z b g) m 215) = (fun g m => some (4, ofR (z b { g with PC := 16, SP := (g.SP - 2) % 65536 }), psh m g.SP (nxt g.PC))) := by intro b; cases b <;> kernel_rfl
theorem rst3 : ∀ b, (fun g m => firstF (z b g) m 223) = (fun g m => some (4, ofR (z b { g with PC := 24, SP := (g.SP - 2) % 65536 }), psh m g.SP (nxt g.PC))) := by intro b; cases b <;> kernel_rfl
theorem rst4 : ∀ b, (fun g m => firstF (z b g) m 231) = (fun g m => some (4, ofR (z b { g with PC := 32, SP := (g.SP - 2) % 65536 }), psh m g.SP (nxt g.PC))) := by intro b; cases b <;> kernel_rfl
theorem rst5 : ∀ b, (fun g m => firstF (z b g) m 239) = (fun g m => some (4, ofR (z b { g with PC := 40, SP := (g.SP - 2) % 65536 }), psh m g.SP (nxt g.PC))) := by intro b; cases b <;> kernel_rfl
theorem rst6 : ∀ b, (fun g m => firstF (z b g) m 247) = (fun g m => some (4, ofR (z b { g with PC := 48, SP := (g.SP - 2) % 65536 }), psh m g.SP (nxt g.PC))) := by intro b; cases b <;> kernel_rfl
theorem rst7 : ∀ b, (fun g m => firstF (z b g) m 255) = (fun g m => some (4, ofR (z b { g with PC := 56, SP := (g.SP - 2) % 65536 }), psh m g.SP (nxt g.PC))) := by intro b; cases b <;> kernel_rfl
end Go.Proofs.YtmlfmkebljdoiaaGreatDoor
