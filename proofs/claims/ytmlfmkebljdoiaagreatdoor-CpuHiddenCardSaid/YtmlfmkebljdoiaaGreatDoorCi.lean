/- Own text: the model: single instructions. -/
import Derived.Test.YtmlfmkebljdoiaaGreatDoorCv
namespace Go.Proofs.YtmlfmkebljdoiaaGreatDoor
open Go.Ev Go.Ev.Tr Go.Proofs
set_option maxRecDepth 1000000
/-! ### registers as the laws bind them -/
def bndR (r : Rg) : Rg := ⟨pickV r.A (256 : Nat), pickV r.F (256 : Nat) / 16 * 16, pickV r.B (256 : Nat), pickV r.C (256 : Nat), pickV r.D (256 : Nat), pickV r.E (256 : Nat), pickV r.H (256 : Nat), pickV r.L (256 : Nat), pickV r.SP (65536 : Nat), pickV r.PC (65536 : Nat), r.IME, 0⟩
/-- A processor between two instructions. -/
def ofR (g : Rg) : Cpu := ⟨g, g, rdW g.PC, false, false, 0, 0, 0, 0, 0, 0, false, false⟩
theorem pickV256 (c : Int) : 0 ≤ pickV c (256 : Nat) ∧ pickV c (256 : Nat) ≤ 255 := by
  have := pickV_in (c := c) (n := ((256 : Nat) : Int)) (by decide)
  omega
theorem pickV64k (c : Int) : 0 ≤ pickV c (65536 : Nat) ∧ pickV c (65536 : Nat) ≤ 65535 := by
  have := pickV_in (c := c) (n := ((65536 : Nat) : Int)) (by decide)
  omega
theorem pickV_id {c : Int} {n : Nat} (h0 : 0 ≤ c) (h1 : c < n) : pickV c n = c := by
  unfold pickV
  rw [decide_eq_false (by omega)]
  exact Int.emod_eq_of_lt h0 h1
theorem bnd_in (r : Rg) : InR (bndR r) where
  hA := pickV256 _
  hF := by have := pickV256 r.F; constructor <;> (show _ ≤ _) <;> simp only [bndR] <;> omega
  hB := pickV256 _
  hC := pickV256 _
  hD := pickV256 _
  hE := pickV256 _
  hH := pickV256 _
  hL := pickV256 _
  hSP := pickV64k _
  hPC := pickV64k _
  hSt := by simp [bndR]
theorem pk16_id {a : Int} (h0 : 0 ≤ a) (h1 : a ≤ 65535) : pk16 a = a.toNat := by
  unfold pk16; rw [pickV_id h0 (by omega)]
/-! ### pairs -/
theorem orf_pair {x y : Int} (hx : 0 ≤ x) (hy0 : 0 ≤ y) (hy1 : y ≤ 255) : orf (x * 256) y = x * 256 + y := by
  obtain ⟨a, rfl⟩ := Int.eq_ofNat_of_zero_le hx
  obtain ⟨b, rfl⟩ := Int.eq_ofNat_of_zero_le hy0
  unfold orf
  have e1 : ((a : Int) * 256).toNat = a * 2 ^ 8 := by omega
  have e2 : ((b : Int)).toNat = b := by omega
  rw [e1, e2, ← Nat.shiftLeft_eq, ← Nat.shiftLeft_add_eq_or_of_lt (by omega), Nat.shiftLeft_eq]
  omega
theorem hl_eq {g : Rg} (h : InR g) : hlM g = g.H * 256 + g.L := orf_pair h.hH.1 h.hL.1 h.hL.2
/-! ### the first cycle reads the opcode -/
noncomputable def firstF (g : Rg) (m : Mem) (f : Int) : Option (Int × Cpu × Mem) := bif okC (ofR g) then (bif (tickM (ofR g) f 0).1.mid then instrM 6 1 (tickM (ofR g) f 0).1 m else some (1, (tickM (ofR g) f 0).1, m)) else none
theorem first_eq (g : Rg) (m : Mem) : instrM 7 0 (ofR g) m = firstF g m (m (pk16 g.PC)) := by kernel_rfl
def pcAt (_ : Rg) (k : Int) : Int := k
/-- PC goes on. -/
def nxt (a : Int) : Int := (a + 1) % 65536
theorem nxt_in (a : Int) : 0 ≤ nxt a ∧ nxt a ≤ 65535 := by unfold nxt; omega
/-! LD rr,nn -/
def wordAt (m : Mem) (a : Int) : Int := orf (m (pk16 (nxt (nxt a))) * 256) (m (pk16 (nxt a)))
def z (b : Bool) (g : Rg) : Rg := { g with IME := b, St := 0 }
theorem i33 : ∀ b, (fun g m => firstF (z b g) m 33) = (fun g m => some (3, ofR (z b { g with H := wordAt m g.PC / 256, L := wordAt m g.PC % 256, PC := nxt (nxt (nxt g.PC)) }), m)) := by intro b; cases b <;> kernel_rfl
theorem i17 : ∀ b, (fun g m => firstF (z b g) m 17) = (fun g m => some (3, ofR (z b { g with D := wordAt m g.PC / 256, E := wordAt m g.PC % 256, PC := nxt (nxt (nxt g.PC)) }), m)) := by intro b; cases b <;> kernel_rfl
theorem i19 : ∀ b, (fun g m => firstF (z b g) m 19) = (fun g m => some (2, ofR (z b { g with D := ((orf (g.D * 256) g.E + 1) % 65536) / 256, E := ((orf (g.D * 256) g.E + 1) % 65536) % 256, PC := nxt g.PC }), m)) := by intro b; cases b <;> kernel_rfl
theorem i43 : ∀ b, (fun g m => firstF (z b g) m 43) = (fun g m => some (2, ofR (z b { g with H := ((hlM g + (-1)) % 65536) / 256, L := ((hlM g + (-1)) % 65536) % 256, PC := nxt g.PC }), m)) := by intro b; cases b <;> kernel_rfl
noncomputable def addW (x y F : Int) (i : Nat) : Int := alu2 146 [kb .u16 x, kb .u16 y, kb .u8 F] i
theorem i25 : ∀ b, (fun g m => firstF (z b g) m 25) = (fun g m => some (2, ofR (z b { g with H := addW (hlM g) (orf (g.D * 256) g.E) g.F 0 / 256, L := addW (hlM g) (orf (g.D * 256) g.E) g.F 0 % 256, F := addW (hlM g) (orf (g.D * 256) g.E) g.F 1, PC := nxt g.PC }), m)) := by intro b; cases b <;> kernel_rfl
theorem i249 : ∀ b, (fun g m => firstF (z b g) m 249) = (fun g m => some (2, ofR (z b { g with SP := hlM g, PC := nxt g.PC }), m)) := by intro b; cases b <;> kernel_rfl
theorem i8 : ∀ b, (fun g m => firstF (z b g) m 8) = (fun g m => some (5, ofR (z b { g with PC := nxt (nxt (nxt g.PC)) }), wrM (wrM m (wordAt m g.PC) (g.SP % 256)) ((wordAt m g.PC + 1) % 65536) (g.SP / 256))) := by intro b; cases b <;> kernel_rfl
end Go.Proofs.YtmlfmkebljdoiaaGreatDoor
