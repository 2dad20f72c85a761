/- Own text, in part written by a program of mine: CpuMoves: the law. -/
import Derived.Test.YtmlfmkebljdoiaaGreatDoorL4c
import Derived.Test.YtmlfmkebljdoiaaGreatDoorGd
namespace Go.Proofs.YtmlfmkebljdoiaaGreatDoor
open Go.Ev Go.Ev.Tr Go.Proofs
set_option maxRecDepth 1000000
theorem ld64 : ∀ b, (fun g m => firstF (z b g) m 64) = (fun g m => some (1, ofR (z b { g with B := g.B, PC := nxt g.PC }), m)) := by intro b; cases b <;> kernel_rfl
theorem ld65 : ∀ b, (fun g m => firstF (z b g) m 65) = (fun g m => some (1, ofR (z b { g with B := g.C, PC := nxt g.PC }), m)) := by intro b; cases b <;> kernel_rfl
theorem ld66 : ∀ b, (fun g m => firstF (z b g) m 66) = (fun g m => some (1, ofR (z b { g with B := g.D, PC := nxt g.PC }), m)) := by intro b; cases b <;> kernel_rfl
theorem ld67 : ∀ b, (fun g m => firstF (z b g) m 67) = (fun g m => some (1, ofR (z b { g with B := g.E, PC := nxt g.PC }), m)) := by intro b; cases b <;> kernel_rfl
theorem ld68 : ∀ b, (fun g m => firstF (z b g) m 68) = (fun g m => some (1, ofR (z b { g with B := g.H, PC := nxt g.PC }), m)) := by intro b; cases b <;> kernel_rfl
theorem ld69 : ∀ b, (fun g m => firstF (z b g) m 69) = (fun g m => some (1, ofR (z b { g with B := g.L, PC := nxt g.PC }), m)) := by intro b; cases b <;> kernel_rfl
theorem ld70 : ∀ b, (fun g m => firstF (z b g) m 70) = (fun g m => some (2, ofR (z b { g with B := m (pk16 (hlM g)), PC := nxt g.PC }), m)) := by intro b; cases b <;> kernel_rfl
theorem ld71 : ∀ b, (fun g m => firstF (z b g) m 71) = (fun g m => some (1, ofR (z b { g with B := g.A, PC := nxt g.PC }), m)) := by intro b; cases b <;> kernel_rfl
theorem ld72 : ∀ b, (fun g m => firstF (z b g) m 72) = (fun g m => some (1, ofR (z b { g with C := g.B, PC := nxt g.PC }), m)) := by intro b; cases b <;> kernel_rfl
theorem ld73 : ∀ b, (fun g m => firstF (z b g) m 73) = (fun g m => some (1, ofR (z b { g with C := g.C, PC := nxt g.PC }), m)) := by intro b; cases b <;> kernel_rfl
theorem ld74 : ∀ b, (fun g m => firstF (z b g) m 74) = (fun g m => some (1, ofR (z b { g with C := g.D, PC := nxt g.PC }), m)) := by intro b; cases b <;> kernel_rfl
theorem ld75 : ∀ b, (fun g m => firstF (z b g) m 75) = (fun g m => some (1, ofR (z b { g with C := g.E, PC := nxt g.PC }), m)) := by intro b; cases b <;> kernel_rfl
theorem ld76 : ∀ b, (fun g m => firstF (z b g) m 76) = (fun g m => some (1, ofR (z b { g with C := g.H, PC := nxt g.PC }), m)) := by intro b; cases b <;> kernel_rfl
theorem ld77 : ∀ b, (fun g m => firstF (z b g) m 77) = (fun g m => some (1, ofR (z b { g with C := g.L, PC := nxt g.PC }), m)) := by intro b; cases b <;> kernel_rfl
theorem ld78 : ∀ b, (fun g m => firstF (z b g) m 78) = (fun g m => some (2, ofR (z b { g with C := m (pk16 (hlM g)), PC := nxt g.PC }), m)) := by intro b; cases b <;> kernel_rfl
theorem ld79 : ∀ b, (fun g m => firstF (z b g) m 79) = (fun g m => some (1, ofR (z b { g with C := g.A, PC := nxt g.PC }), m)) := by intro b; cases b <;> kernel_rfl
theorem ld80 : ∀ b, (fun g m => firstF (z b g) m 80) = (fun g m => some (1, ofR (z b { g with D := g.B, PC := nxt g.PC }), m)) := by intro b; cases b <;> kernel_rfl
theorem ld81 : ∀ b, (fun g m => firstF (z b g) m 81) = (fun g m => some (1, ofR (z b { g with D := g.C, PC := nxt g.PC }), m)) := by intro b; cases b <;> kernel_rfl
theorem ld82 : ∀ b, (fun g m => firstF (z b g) m 82) = (fun g m => some (1, ofR (z b { g with D := g.D, PC := nxt g.PC }), m)) := by intro b; cases b <;> kernel_rfl
theorem ld83 : ∀ b, (fun g m => firstF (z b g) m 83) = (fun g m => some (1, ofR (z b { g with D := g.E, PC := nxt g.PC }), m)) := by intro b; cases b <;> kernel_rfl
theorem ld84 : ∀ b, (fun g m => firstF (z b g) m 84) = (fun g m => some (1, ofR (z b { g with D := g.H, PC := nxt g.PC }), m)) := by intro b; cases b <;> kernel_rfl
theorem ld85 : ∀ b, (fun g m => firstF (z b g) m 85) = (fun g m => some (1, ofR (z b { g with D := g.L, PC := nxt g.PC }), m)) := by intro b; cases b <;> kernel_rfl
theorem ld86 : ∀ b, (fun g m => firstF (z b g) m 86) = (fun g m => some (2, ofR (z b { g with D := m (pk16 (hlM g)), PC := nxt g.PC }), m)) := by intro b; cases b <;> kernel_rfl
theorem ld87 : ∀ b, (fun g m => firstF (z b g) m 87) = (fun g m => some (1, ofR (z b { g with D := g.A, PC := nxt g.PC }), m)) := by intro b; cases b <;> kernel_rfl
theorem ld88 : ∀ b, (fun g m => firstF (z b g) m 88) = (fun g m => some (1, ofR (z b { g with E := g.B, PC := nxt g.PC }), m)) := by intro b; cases b <;> kernel_rfl
theorem ld89 : ∀ b, (fun g m => firstF (z b g) m 89) = (fun g m => some (1, ofR (z b { g with E := g.C, PC := nxt g.PC }), m)) := by intro b; cases b <;> kernel_rfl
theorem ld90 : ∀ b, (fun g m => firstF (z b g) m 90) = (fun g m => some (1, ofR (z b { g with E := g.D, PC := nxt g.PC }), m)) := by intro b; cases b <;> kernel_rfl
theorem ld91 : ∀ b, (fun g m => firstF (z b g) m 91) = (fun g m => some (1, ofR (z b { g with E := g.E, PC := nxt g.PC }), m)) := by intro b; cases b <;> kernel_rfl
theorem ld92 : ∀ b, (fun g m => firstF (z b g) m 92) = (fun g m => some (1, ofR (z b { g with E := g.H, PC := nxt g.PC }), m)) := by intro b; cases b <;> kernel_rfl
theorem ld93 : ∀ b, (fun g m => firstF (z b g) m 93) = (fun g m => some (1, ofR (z b { g with E := g.L, PC := nxt g.PC }), m)) := by intro b; cases b <;> kernel_rfl
theorem ld94 : ∀ b, (fun g m => firstF (z b g) m 94) = (fun g m => some (2, ofR (z b { g with E := m (pk16 (hlM g)), PC := nxt g.PC }), m)) := by intro b; cases b <;> kernel_rfl
theorem ld95 : ∀ b, (fun g m => firstF (z b g) m 95) = (fun g m => some (1, ofR (z b { g with E := g.A, PC := nxt g.PC }), m)) := by intro b; cases b <;> kernel_rfl
theorem ld112 : ∀ b, (fun g m => firstF (z b g) m 112) = (fun g m => some (2, ofR (z b { g with PC := nxt g.PC }), wrM m (hlM g) g.B)) := by intro b; cases b <;> kernel_rfl
theorem ld113 : ∀ b, (fun g m => firstF (z b g) m 113) = (fun g m => some (2, ofR (z b { g with PC := nxt g.PC }), wrM m (hlM g) g.C)) := by intro b; cases b <;> kernel_rfl
theorem ld114 : ∀ b, (fun g m => firstF (z b g) m 114) = (fun g m => some (2, ofR (z b { g with PC := nxt g.PC }), wrM m (hlM g) g.D)) := by intro b; cases b <;> kernel_rfl
theorem ld115 : ∀ b, (fun g m => firstF (z b g) m 115) = (fun g m => some (2, ofR (z b { g with PC := nxt g.PC }), wrM m (hlM g) g.E)) := by intro b; cases b <;> kernel_rfl
theorem ld116 : ∀ b, (fun g m => firstF (z b g) m 116) = (fun g m => some (2, ofR (z b { g with PC := nxt g.PC }), wrM m (hlM g) g.H)) := by intro b; cases b <;> kernel_rfl
theorem ld117 : ∀ b, (fun g m => firstF (z b g) m 117) = (fun g m => some (2, ofR (z b { g with PC := nxt g.PC }), wrM m (hlM g) g.L)) := by intro b; cases b <;> kernel_rfl
theorem ld119 : ∀ b, (fun g m => firstF (z b g) m 119) = (fun g m => some (2, ofR (z b { g with PC := nxt g.PC }), wrM m (hlM g) g.A)) := by intro b; cases b <;> kernel_rfl
theorem ld120 : ∀ b, (fun g m => firstF (z b g) m 120) = (fun g m => some (1, ofR (z b { g with A := g.B, PC := nxt g.PC }), m)) := by intro b; cases b <;> kernel_rfl
theorem ld121 : ∀ b, (fun g m => firstF (z b g) m 121) = (fun g m => some (1, ofR (z b { g with A := g.C, PC := nxt g.PC }), m)) := by intro b; cases b <;> kernel_rfl
theorem ld122 : ∀ b, (fun g m => firstF (z b g) m 122) = (fun g m => some (1, ofR (z b { g with A := g.D, PC := nxt g.PC }), m)) := by intro b; cases b <;> kernel_rfl
theorem ld123 : ∀ b, (fun g m => firstF (z b g) m 123) = (fun g m => some (1, ofR (z b { g with A := g.E, PC := nxt g.PC }), m)) := by intro b; cases b <;> kernel_rfl
theorem ld124 : ∀ b, (fun g m => firstF (z b g) m 124) = (fun g m => some (1, ofR (z b { g with A := g.H, PC := nxt g.PC }), m)) := by intro b; cases b <;> kernel_rfl
theorem ld125 : ∀ b, (fun g m => firstF (z b g) m 125) = (fun g m => some (1, ofR (z b { g with A := g.L, PC := nxt g.PC }), m)) := by intro b; cases b <;> kernel_rfl
theorem ld126 : ∀ b, (fun g m => firstF (z b g) m 126) = (fun g m => some (2, ofR (z b { g with A := m (pk16 (hlM g)), PC := nxt g.PC }), m)) := by intro b; cases b <;> kernel_rfl
theorem ld127 : ∀ b, (fun g m => firstF (z b g) m 127) = (fun g m => some (1, ofR (z b { g with A := g.A, PC := nxt g.PC }), m)) := by intro b; cases b <;> kernel_rfl
/-- Registers as the places have them. -/
def gOf (p : Nat → Int) (g : Rg) (pc : Int) : Rg := ⟨p 7, g.F, p 0, p 1, p 2, p 3, p 4, p 5, g.SP, pc, g.IME, 0⟩
def mJ (F : List Int) (L : Int) (p : Nat → Int) : Mem := fun j => if j = (49408 + L).toNat then p 6 else mMv (p, F) j
theorem hlOf {p : Nat → Int} {g : Rg} {pc L : Int} (h4 : p 4 = 193) (h5 : p 5 = L) (hL : 0 ≤ L ∧ L ≤ 255) : hlM (gOf p g pc) = 49408 + L := by
  have e : hlM (gOf p g pc) = orf (p 4 * 256) (p 5) := rfl
  rw [e, h4, h5, orf_pair (by omega) hL.1 hL.2]; omega
theorem rdHL {p : Nat → Int} {g : Rg} {pc L : Int} {F : List Int} (h4 : p 4 = 193) (h5 : p 5 = L) (hL : 0 ≤ L ∧ L ≤ 255) : mJ F L p (pk16 (hlM (gOf p g pc))) = p 6 := by
  rw [hlOf h4 h5 hL, pk16_id (by omega) (by omega)]
  unfold mJ; rw [if_pos rfl]
theorem wrHL {p : Nat → Int} {g : Rg} {pc L : Int} {F : List Int} (h4 : p 4 = 193) (h5 : p 5 = L) (hL : 0 ≤ L ∧ L ≤ 255) (fr : Nat) : wrM (mJ F L p) (hlM (gOf p g pc)) (p fr) = mJ F L (setP p 6 fr) := by
  rw [hlOf h4 h5 hL]
  funext j
  unfold wrM mJ
  rw [pk16_id (by omega) (by omega)]
  by_cases e : j = (49408 + L).toNat
  · rw [if_pos e, if_pos e]; rfl
  · rw [if_neg e, if_neg e, if_neg e]; rfl
theorem ldAll {p : Nat → Int} {g : Rg} {pc L : Int} {F : List Int} (h4 : p 4 = 193) (h5 : p 5 = L) (hL : 0 ≤ L ∧ L ≤ 255) (to fr : Nat) (ht : to < 8) (hf : fr < 8) (hs : skipB to fr = false) :
    ∃ c, firstF (gOf p g pc) (mJ F L p) (opM to fr) = some (c, ofR (gOf (setP p to fr) g (nxt pc)), mJ F L (setP p to fr)) ∧ setP p to fr 4 = 193 ∧ setP p to fr 5 = L := by
  have hz : z g.IME (gOf p g pc) = gOf p g pc := rfl
  have c1 : to = 0 ∨ to = 1 ∨ to = 2 ∨ to = 3 ∨ to = 4 ∨ to = 5 ∨ to = 6 ∨ to = 7 := by omega
  have c2 : fr = 0 ∨ fr = 1 ∨ fr = 2 ∨ fr = 3 ∨ fr = 4 ∨ fr = 5 ∨ fr = 6 ∨ fr = 7 := by omega
  rcases c1 with rfl | rfl | rfl | rfl | rfl | rfl | rfl | rfl
  · rcases c2 with rfl | rfl | rfl | rfl | rfl | rfl | rfl | rfl
    · have e := congrFun (congrFun (ld64 g.IME) (gOf p g pc)) (mJ F L p)
      rw [hz] at e
      exact ⟨1, e, h4, h5⟩
    · have e := congrFun (congrFun (ld65 g.IME) (gOf p g pc)) (mJ F L p)
      rw [hz] at e
      exact ⟨1, e, h4, h5⟩
    · have e := congrFun (congrFun (ld66 g.IME) (gOf p g pc)) (mJ F L p)
      rw [hz] at e
      exact ⟨1, e, h4, h5⟩
    · have e := congrFun (congrFun (ld67 g.IME) (gOf p g pc)) (mJ F L p)
      rw [hz] at e
      exact ⟨1, e, h4, h5⟩
    · have e := congrFun (congrFun (ld68 g.IME) (gOf p g pc)) (mJ F L p)
      rw [hz] at e
      exact ⟨1, e, h4, h5⟩
    · have e := congrFun (congrFun (ld69 g.IME) (gOf p g pc)) (mJ F L p)
      rw [hz] at e
      exact ⟨1, e, h4, h5⟩
    · have e := congrFun (congrFun (ld70 g.IME) (gOf p g pc)) (mJ F L p)
      rw [hz] at e
      rw [rdHL h4 h5 hL] at e
      exact ⟨2, e, h4, h5⟩
    · have e := congrFun (congrFun (ld71 g.IME) (gOf p g pc)) (mJ F L p)
      rw [hz] at e
      exact ⟨1, e, h4, h5⟩
  · rcases c2 with rfl | rfl | rfl | rfl | rfl | rfl | rfl | rfl
    · have e := congrFun (congrFun (ld72 g.IME) (gOf p g pc)) (mJ F L p)
      rw [hz] at e
      exact ⟨1, e, h4, h5⟩
    · have e := congrFun (congrFun (ld73 g.IME) (gOf p g pc)) (mJ F L p)
      rw [hz] at e
      exact ⟨1, e, h4, h5⟩
    · have e := congrFun (congrFun (ld74 g.IME) (gOf p g pc)) (mJ F L p)
      rw [hz] at e
      exact ⟨1, e, h4, h5⟩
    · have e := congrFun (congrFun (ld75 g.IME) (gOf p g pc)) (mJ F L p)
      rw [hz] at e
      exact ⟨1, e, h4, h5⟩
    · have e := congrFun (congrFun (ld76 g.IME) (gOf p g pc)) (mJ F L p)
      rw [hz] at e
      exact ⟨1, e, h4, h5⟩
    · have e := congrFun (congrFun (ld77 g.IME) (gOf p g pc)) (mJ F L p)
      rw [hz] at e
      exact ⟨1, e, h4, h5⟩
    · have e := congrFun (congrFun (ld78 g.IME) (gOf p g pc)) (mJ F L p)
      rw [hz] at e
      rw [rdHL h4 h5 hL] at e
      exact ⟨2, e, h4, h5⟩
    · have e := congrFun (congrFun (ld79 g.IME) (gOf p g pc)) (mJ F L p)
      rw [hz] at e
      exact ⟨1, e, h4, h5⟩
  · rcases c2 with rfl | rfl | rfl | rfl | rfl | rfl | rfl | rfl
    · have e := congrFun (congrFun (ld80 g.IME) (gOf p g pc)) (mJ F L p)
      rw [hz] at e
      exact ⟨1, e, h4, h5⟩
    · have e := congrFun (congrFun (ld81 g.IME) (gOf p g pc)) (mJ F L p)
      rw [hz] at e
      exact ⟨1, e, h4, h5⟩
    · have e := congrFun (congrFun (ld82 g.IME) (gOf p g pc)) (mJ F L p)
      rw [hz] at e
      exact ⟨1, e, h4, h5⟩
    · have e := congrFun (congrFun (ld83 g.IME) (gOf p g pc)) (mJ F L p)
      rw [hz] at e
      exact ⟨1, e, h4, h5⟩
    · have e := congrFun (congrFun (ld84 g.IME) (gOf p g pc)) (mJ F L p)
      rw [hz] at e
      exact ⟨1, e, h4, h5⟩
    · have e := congrFun (congrFun (ld85 g.IME) (gOf p g pc)) (mJ F L p)
      rw [hz] at e
      exact ⟨1, e, h4, h5⟩
    · have e := congrFun (congrFun (ld86 g.IME) (gOf p g pc)) (mJ F L p)
      rw [hz] at e
      rw [rdHL h4 h5 hL] at e
      exact ⟨2, e, h4, h5⟩
    · have e := congrFun (congrFun (ld87 g.IME) (gOf p g pc)) (mJ F L p)
      rw [hz] at e
      exact ⟨1, e, h4, h5⟩
  · rcases c2 with rfl | rfl | rfl | rfl | rfl | rfl | rfl | rfl
    · have e := congrFun (congrFun (ld88 g.IME) (gOf p g pc)) (mJ F L p)
      rw [hz] at e
      exact ⟨1, e, h4, h5⟩
    · have e := congrFun (congrFun (ld89 g.IME) (gOf p g pc)) (mJ F L p)
      rw [hz] at e
      exact ⟨1, e, h4, h5⟩
    · have e := congrFun (congrFun (ld90 g.IME) (gOf p g pc)) (mJ F L p)
      rw [hz] at e
      exact ⟨1, e, h4, h5⟩
    · have e := congrFun (congrFun (ld91 g.IME) (gOf p g pc)) (mJ F L p)
      rw [hz] at e
      exact ⟨1, e, h4, h5⟩
    · have e := congrFun (congrFun (ld92 g.IME) (gOf p g pc)) (mJ F L p)
      rw [hz] at e
      exact ⟨1, e, h4, h5⟩
    · have e := congrFun (congrFun (ld93 g.IME) (gOf p g pc)) (mJ F L p)
      rw [hz] at e
      exact ⟨1, e, h4, h5⟩
    · have e := congrFun (congrFun (ld94 g.IME) (gOf p g pc)) (mJ F L p)
      rw [hz] at e
      rw [rdHL h4 h5 hL] at e
      exact ⟨2, e, h4, h5⟩
    · have e := congrFun (congrFun (ld95 g.IME) (gOf p g pc)) (mJ F L p)
      rw [hz] at e
      exact ⟨1, e, h4, h5⟩
  · cases hs
  · cases hs
  · rcases c2 with rfl | rfl | rfl | rfl | rfl | rfl | rfl | rfl
    · have e := congrFun (congrFun (ld112 g.IME) (gOf p g pc)) (mJ F L p)
      rw [hz] at e
      exact ⟨2, e.trans (congrArg some (congrArg (Prod.mk (2 : Int)) (congrArg (Prod.mk _) (wrHL h4 h5 hL 0)))), h4, h5⟩
    · have e := congrFun (congrFun (ld113 g.IME) (gOf p g pc)) (mJ F L p)
      rw [hz] at e
      exact ⟨2, e.trans (congrArg some (congrArg (Prod.mk (2 : Int)) (congrArg (Prod.mk _) (wrHL h4 h5 hL 1)))), h4, h5⟩
    · have e := congrFun (congrFun (ld114 g.IME) (gOf p g pc)) (mJ F L p)
      rw [hz] at e
      exact ⟨2, e.trans (congrArg some (congrArg (Prod.mk (2 : Int)) (congrArg (Prod.mk _) (wrHL h4 h5 hL 2)))), h4, h5⟩
    · have e := congrFun (congrFun (ld115 g.IME) (gOf p g pc)) (mJ F L p)
      rw [hz] at e
      exact ⟨2, e.trans (congrArg some (congrArg (Prod.mk (2 : Int)) (congrArg (Prod.mk _) (wrHL h4 h5 hL 3)))), h4, h5⟩
    · have e := congrFun (congrFun (ld116 g.IME) (gOf p g pc)) (mJ F L p)
      rw [hz] at e
      exact ⟨2, e.trans (congrArg some (congrArg (Prod.mk (2 : Int)) (congrArg (Prod.mk _) (wrHL h4 h5 hL 4)))), h4, h5⟩
    · have e := congrFun (congrFun (ld117 g.IME) (gOf p g pc)) (mJ F L p)
      rw [hz] at e
      exact ⟨2, e.trans (congrArg some (congrArg (Prod.mk (2 : Int)) (congrArg (Prod.mk _) (wrHL h4 h5 hL 5)))), h4, h5⟩
    · cases hs
    · have e := congrFun (congrFun (ld119 g.IME) (gOf p g pc)) (mJ F L p)
      rw [hz] at e
      exact ⟨2, e.trans (congrArg some (congrArg (Prod.mk (2 : Int)) (congrArg (Prod.mk _) (wrHL h4 h5 hL 7)))), h4, h5⟩
  · rcases c2 with rfl | rfl | rfl | rfl | rfl | rfl | rfl | rfl
    · have e := congrFun (congrFun (ld120 g.IME) (gOf p g pc)) (mJ F L p)
      rw [hz] at e
      exact ⟨1, e, h4, h5⟩
    · have e := congrFun (congrFun (ld121 g.IME) (gOf p g pc)) (mJ F L p)
      rw [hz] at e
      exact ⟨1, e, h4, h5⟩
    · have e := congrFun (congrFun (ld122 g.IME) (gOf p g pc)) (mJ F L p)
      rw [hz] at e
      exact ⟨1, e, h4, h5⟩
    · have e := congrFun (congrFun (ld123 g.IME) (gOf p g pc)) (mJ F L p)
      rw [hz] at e
      exact ⟨1, e, h4, h5⟩
    · have e := congrFun (congrFun (ld124 g.IME) (gOf p g pc)) (mJ F L p)
      rw [hz] at e
      exact ⟨1, e, h4, h5⟩
    · have e := congrFun (congrFun (ld125 g.IME) (gOf p g pc)) (mJ F L p)
      rw [hz] at e
      exact ⟨1, e, h4, h5⟩
    · have e := congrFun (congrFun (ld126 g.IME) (gOf p g pc)) (mJ F L p)
      rw [hz] at e
      rw [rdHL h4 h5 hL] at e
      exact ⟨2, e, h4, h5⟩
    · have e := congrFun (congrFun (ld127 g.IME) (gOf p g pc)) (mJ F L p)
      rw [hz] at e
      exact ⟨1, e, h4, h5⟩
theorem runMoves (ms : List Int) {g : Rg} {L : Int} (hL : 0 ≤ L ∧ L ≤ 255) (F : List Int) (hF : F.length ≤ 60) : ∀ (k i : Nat) (q : QM), q.1 4 = 193 → q.1 5 = L → (goM ms k i q).2 = F →
    ∃ rest, F = q.2 ++ rest ∧ (goM ms k i q).1 4 = 193 ∧ (goM ms k i q).1 5 = L ∧ ∀ all, ∃ all', runM rest.length (ofR (gOf q.1 g (512 + q.2.length))) (mJ F L q.1) all = some (ofR (gOf (goM ms k i q).1 g (512 + F.length)), mJ F L (goM ms k i q).1, all')
  | 0, i, q, h4, h5, he => by
    have he : q.2 = F := he
    refine ⟨[], by rw [he]; simp, h4, h5, fun all => ⟨all, ?_⟩⟩
    rw [← he]; rfl
  | k + 1, i, q, h4, h5, he => by
    have hstep : goM ms (k + 1) i q = goM ms k (i + 1) (stpM ms q i) := rfl
    rw [hstep] at he ⊢
    cases hs : skipB (toM ms i) (frM ms i) with
    | true =>
      have e : stpM ms q i = q := by unfold stpM; rw [hs]
      rw [e] at he ⊢
      exact runMoves ms hL F hF k (i + 1) q h4 h5 he
    | false =>
      have e : stpM ms q i = (setP q.1 (toM ms i) (frM ms i), q.2 ++ [opM (toM ms i) (frM ms i)]) := by unfold stpM; rw [hs]
      rw [e] at he ⊢
      obtain ⟨c, h6, h7, h8⟩ := ldAll (p := q.1) (g := g) (pc := 512 + q.2.length) (F := F) h4 h5 hL (toM ms i) (frM ms i) (toM_lt _ _) (frM_lt _ _) hs
      obtain ⟨rest, r1, r2, r3, r4⟩ := runMoves ms (g := g) hL F hF k (i + 1) (setP q.1 (toM ms i) (frM ms i), q.2 ++ [opM (toM ms i) (frM ms i)]) h7 h8 he
      refine ⟨opM (toM ms i) (frM ms i) :: rest, by rw [r1]; simp, r2, r3, fun all => ?_⟩
      have hlen : q.2.length < F.length := by rw [r1]; simp
      have hop : mJ F L q.1 (pk16 (gOf q.1 g (512 + q.2.length)).PC) = opM (toM ms i) (frM ms i) := by
        have e1 : pk16 (gOf q.1 g (512 + q.2.length)).PC = 512 + q.2.length := by
          show pk16 (512 + (q.2.length : Int)) = _
          rw [pk16_id (by omega) (by omega)]; omega
        rw [e1]
        unfold mJ mMv fillF
        rw [if_neg (by omega), if_pos (by simp only; omega)]
        have e2 : 512 + q.2.length - 512 = q.2.length := by omega
        rw [e2, r1, List.getD_eq_getElem?_getD]
        simp
      have hins : instrM 7 0 (ofR (gOf q.1 g (512 + q.2.length))) (mJ F L q.1) = some (c, ofR (gOf (setP q.1 (toM ms i) (frM ms i)) g (nxt (512 + q.2.length))), mJ F L (setP q.1 (toM ms i) (frM ms i))) := by
        rw [first_eq, hop]; exact h6
      have hpc : nxt (512 + (q.2.length : Int)) = 512 + ((q.2 ++ [opM (toM ms i) (frM ms i)]).length : Nat) := by
        unfold nxt
        simp only [List.length_append, List.length_cons, List.length_nil]; omega
      rw [hpc] at hins
      obtain ⟨all', r5⟩ := r4 (IntKind.i64.wrap (all + c))
      refine ⟨all', ?_⟩
      show runM (rest.length + 1) _ _ _ = _
      rw [run_step hins]; exact r5
theorem go_len (ms : List Int) : ∀ (k i : Nat) (q : QM), (goM ms k i q).2.length ≤ q.2.length + k
  | 0, _, q => Nat.le_refl _
  | k + 1, i, q => by
    have h := go_len ms k (i + 1) (stpM ms q i)
    have h2 : (stpM ms q i).2.length ≤ q.2.length + 1 := by
      unfold stpM
      cases skipB (toM ms i) (frM ms i) <;> simp
    show (goM ms k (i + 1) (stpM ms q i)).2.length ≤ _
    omega
theorem good4 (r : Rg) : GoodX (g4 r) where
  inr := by
    have h := bnd_in r
    exact ⟨h.hA, h.hF, h.hB, h.hC, h.hD, h.hE, by show (0 : Int) ≤ 193 ∧ (193 : Int) ≤ 255; omega, h.hL, h.hSP, by show (0 : Int) ≤ 512 ∧ (512 : Int) ≤ 65535; omega, h.hSt⟩
  f16 := bnd_f16 r
  st := rfl
theorem start4 {g : Rg} (h : GoodX g) : startM (bndR g) = [true, false] := by
  rw [h.id]; unfold startM
  have h1 : fOk g = true := by unfold fOk; rw [h.f16]; rfl
  have h2 : eqR4 g g = true := by simp [eqR4]
  rw [h1, h2]; rfl
/-- What a run does. -/
theorem ranM (ms : List Int) (r : Rg) (n : Nat) (hn : n ≤ 60) (p0 : Nat → Int) (hp0 : gOf p0 (g4 r) 512 = g4 r) (hp4 : p0 4 = 193) (hp5 : p0 5 = (g4 r).L) (hp6 : p0 6 = 0) (q : QM) (hq : goM ms n 0 (p0, []) = q) :
    askM (g4 r) q (mMv q) = true ∧ cmpM (g4 r) (rM (g4 r) q (mMv q)).c.regs q.1 = [true, true, true, true, true, true, true, true] ∧ leafM (g4 r) (rM (g4 r) q (mMv q)) q.1 = true := by
  have hg := good4 r
  have hL := hg.inr.hL
  have hlen : q.2.length ≤ 60 := by
    have := go_len ms n 0 (p0, [])
    rw [hq] at this
    simp only [List.length_nil] at this; omega
  obtain ⟨rest, r1, r2, r3, r4⟩ := runMoves ms (g := g4 r) hL q.2 hlen n 0 (p0, []) hp4 hp5 (by rw [hq])
  obtain ⟨all', r5⟩ := r4 0
  rw [hq] at r2 r3 r5
  have e1 : rest = q.2 := by rw [r1]; simp
  have e2 : gOf p0 (g4 r) (512 + (([] : List Int).length : Int)) = g4 r := hp0
  have e3 : mJ q.2 (g4 r).L p0 = mMv q := by
    funext j
    unfold mJ
    by_cases e : j = (49408 + (g4 r).L).toNat
    · rw [if_pos e]
      rw [hp6]
      unfold mMv fillF
      rw [if_neg (by omega)]; rfl
    · rw [if_neg e]; rfl
  rw [e1, e2, e3] at r5
  obtain ⟨k1, k2⟩ := runsR_of (n := q.2.length) (by omega) r5
  have hR : rM (g4 r) q (mMv q) = ⟨ofR (gOf q.1 (g4 r) (512 + q.2.length)), mJ q.2 (g4 r).L q.1, q.2.length, all', q.2.length⟩ := by
    unfold rM
    rw [hg.id]; exact k2
  refine ⟨by unfold askM; rw [hg.id]; exact k1, ?_, ?_⟩
  · rw [hR]
    have e4 : (q.1 4 == (193 : Int)) = true := by rw [r2]; rfl
    have e5 : (q.1 5 == (g4 r).L) = true := by rw [r3]; simp
    show [q.1 0 == q.1 0, q.1 1 == q.1 1, q.1 2 == q.1 2, q.1 3 == q.1 3, q.1 4 == 193, q.1 5 == (g4 r).L, q.1 7 == q.1 7, (g4 r).F == (g4 r).F] = _
    rw [e4, e5]; simp
  · rw [hR]
    show (mJ q.2 (g4 r).L q.1 (49408 + (g4 r).L).toNat == q.1 6) = true
    unfold mJ; rw [if_pos rfl]; simp
theorem emptyM {q : QM} (h : q.2 = []) : mMv q = mZ := by
  funext j; unfold mMv; rw [h, fillF_end (Nat.zero_le _)]
theorem cpuMoves_some (r : Rg) (ms : List Int) (sg : Nat) (l : Int) (hl : 0 ≤ l) (hol : l ≤ ms.length) : ∃ v hp', (lawM r ms sg l).run = some (.ret v, hp') ∧ ∀ (ρ : Ren) x, VR ρ v x → x = .bool true := by
  have hg := good4 r
  have hf : fin4 sg ms (s4 (g4 r) sg l) = true := by
    simp only [fin4, decide_eq_true_eq]
    exact ⟨_, _, _, l, rfl, hl, hol⟩
  have hc : cntM l ≤ 60 := by unfold cntM; omega
  obtain ⟨a1, a2, a3⟩ := ranM ms r (cntM l) hc (pOf (pB (p4 (g4 r)))) rfl rfl rfl rfl (qM ms (g4 r) sg l) rfl
  have hst := start4 hg
  cases hq : (qM ms (g4 r) sg l).2 with
  | nil =>
    rw [emptyM hq] at a1 a2 a3
    refine lawPath_run (congrFun (congrFun (congrFun (congrFun lM_A r) ms) sg) l) ?_ a3
    unfold kA
    rw [hf, hst, a1, a2, hq]; rfl
  | cons a tl =>
    refine lawPath_run (congrFun (congrFun (congrFun (congrFun lM_B r) ms) sg) l) ?_ a3
    have hP : (fin19 (s19i (g4 r) (qM ms (g4 r) sg l))).isSome = true := by
      have hlen : (qM ms (g4 r) sg l).2.length ≤ 60 := by
        have := go_len ms (cntM l) 0 (pOf (pB (p4 (g4 r))), [])
        simp only [List.length_nil] at this
        have e : goM ms (cntM l) 0 (pOf (pB (p4 (g4 r))), []) = qM ms (g4 r) sg l := rfl
        rw [e] at this; omega
      unfold fin19
      rw [if_pos ⟨_, _, _, _, _, _, 0, 0, rfl, Nat.zero_le _, hlen⟩]; rfl
    unfold kB
    rw [hf, hst, hP, a1, a2, hq]; rfl
theorem cpuMoves_none (r : Rg) : ∃ v hp', (lawN r).run = some (.ret v, hp') ∧ ∀ (ρ : Ren) x, VR ρ v x → x = .bool true := by
  have hg := good4 r
  obtain ⟨a1, a2, a3⟩ := ranM [] r 0 (Nat.zero_le _) (p4 (g4 r)) rfl rfl rfl rfl (p4 (g4 r), []) rfl
  rw [emptyM rfl] at a1 a2 a3
  refine lawPath_run (congrFun lN r) ?_ a3
  unfold kN
  rw [start4 hg, a1, a2]; rfl
theorem cpuMoves_zero (r : Rg) (off : Nat) : ∃ v hp', (lawZ r off).run = some (.ret v, hp') ∧ ∀ (ρ : Ren) x, VR ρ v x → x = .bool true := by
  have hg := good4 r
  obtain ⟨a1, a2, a3⟩ := ranM [] r 0 (Nat.zero_le _) (p4 (g4 r)) rfl rfl rfl rfl (p4 (g4 r), []) rfl
  rw [emptyM rfl] at a1 a2 a3
  refine lawPath_run (congrFun (congrFun lZ r) off) ?_ a3
  unfold kN
  rw [start4 hg, a1, a2]; rfl
theorem ok4 (sg : Nat) (ms : List Int) : ∀ (w0 : Base) F, w0.nxt ≤ 8 → (c2_4 sg ms).ok Tryz.prog env9 w0 F (ro1 sg ms) Tryz.f4.ntmps := fun w0 F h => ⟨trivial, trivial, trivial, trivial, trivial, trivial, trivial, ⟨trivial, hook4 sg ms w0 F h⟩, trivial⟩
end Go.Proofs.YtmlfmkebljdoiaaGreatDoor
