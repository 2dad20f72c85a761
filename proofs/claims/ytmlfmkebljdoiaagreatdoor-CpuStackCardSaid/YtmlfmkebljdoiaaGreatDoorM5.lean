/- Own text: CpuStack: the law. -/
import Derived.Test.YtmlfmkebljdoiaaGreatDoorL5
import Derived.Test.YtmlfmkebljdoiaaGreatDoorGd
namespace Go.Proofs.YtmlfmkebljdoiaaGreatDoor
open Go.Ev Go.Ev.Tr Go.Proofs
set_option maxRecDepth 1000000
/-! ### PUSH and POP -/
theorem i197 : ∀ b, (fun g m => firstF (z b g) m 197) = (fun g m => some (4, ofR (z b { g with SP := (g.SP - 2) % 65536, PC := nxt g.PC }), psh m g.SP (orf (g.B * 256) g.C))) := by intro b; cases b <;> kernel_rfl
theorem i213 : ∀ b, (fun g m => firstF (z b g) m 213) = (fun g m => some (4, ofR (z b { g with SP := (g.SP - 2) % 65536, PC := nxt g.PC }), psh m g.SP (orf (g.D * 256) g.E))) := by intro b; cases b <;> kernel_rfl
theorem i229 : ∀ b, (fun g m => firstF (z b g) m 229) = (fun g m => some (4, ofR (z b { g with SP := (g.SP - 2) % 65536, PC := nxt g.PC }), psh m g.SP (orf (g.H * 256) g.L))) := by intro b; cases b <;> kernel_rfl
theorem i245 : ∀ b, (fun g m => firstF (z b g) m 245) = (fun g m => some (4, ofR (z b { g with SP := (g.SP - 2) % 65536, PC := nxt g.PC }), psh m g.SP (orf (g.A * 256) g.F))) := by intro b; cases b <;> kernel_rfl
/-- The word that lies on the stack. -/
def topW (m : Mem) (s : Int) : Int := orf (m (pk16 ((s + 1) % 65536)) * 256) (m (pk16 s))
theorem i193 : ∀ b, (fun g m => firstF (z b g) m 193) = (fun g m => some (3, ofR (z b { g with B := topW m g.SP / 256, C := topW m g.SP % 256, SP := (g.SP + 2) % 65536, PC := nxt g.PC }), m)) := by intro b; cases b <;> kernel_rfl
theorem i209 : ∀ b, (fun g m => firstF (z b g) m 209) = (fun g m => some (3, ofR (z b { g with D := topW m g.SP / 256, E := topW m g.SP % 256, SP := (g.SP + 2) % 65536, PC := nxt g.PC }), m)) := by intro b; cases b <;> kernel_rfl
theorem i225 : ∀ b, (fun g m => firstF (z b g) m 225) = (fun g m => some (3, ofR (z b { g with H := topW m g.SP / 256, L := topW m g.SP % 256, SP := (g.SP + 2) % 65536, PC := nxt g.PC }), m)) := by intro b; cases b <;> kernel_rfl
theorem i241 : ∀ b, (fun g m => firstF (z b g) m 241) = (fun g m => some (3, ofR (z b { g with A := topW m g.SP / 256, F := andf (topW m g.SP) 240, SP := (g.SP + 2) % 65536, PC := nxt g.PC }), m)) := by intro b; cases b <;> kernel_rfl
/-! ### the run -/
theorem psh_at {m : Mem} {s v : Int} (h0 : 2 ≤ s) (h1 : s ≤ 65536) (j : Nat) : psh m s v j = if (j : Int) = s - 2 then v % 256 else if (j : Int) = s - 1 then v / 256 else m j := by
  unfold psh wrM
  rw [pk16_id (a := (s - 2) % 65536) (by omega) (by omega), pk16_id (a := (s - 1) % 65536) (by omega) (by omega)]
  by_cases e1 : (j : Int) = s - 2
  · rw [if_pos e1, if_pos (by omega)]
  · rw [if_neg e1, if_neg (by omega)]
    by_cases e2 : (j : Int) = s - 1
    · rw [if_pos e2, if_pos (by omega)]
    · rw [if_neg e2, if_neg (by omega)]
theorem andf_240 {b c : Int} (hb : 0 ≤ b) (hc : 0 ≤ c) (hc1 : c ≤ 255) : andf (b * 256 + c) 240 = c / 16 * 16 := by
  obtain ⟨x, rfl⟩ := Int.eq_ofNat_of_zero_le hb
  obtain ⟨y, rfl⟩ := Int.eq_ofNat_of_zero_le hc
  have key : ∀ y, y < 256 → y &&& 240 = y / 16 * 16 := by decide +kernel
  have k1 := key y (by omega)
  have k2 : (x * 256 + y) &&& 240 = y &&& 240 := by
    have h1 : ((x * 256 + y) &&& 240) % 2 ^ 8 = ((x * 256 + y) % 2 ^ 8) &&& (240 % 2 ^ 8) := Nat.and_mod_two_pow
    have h2 : (x * 256 + y) % 2 ^ 8 = y := by omega
    have h3 : (x * 256 + y) &&& 240 ≤ 240 := Nat.and_le_right
    rw [h2] at h1
    rw [Nat.mod_eq_of_lt (by omega)] at h1
    exact h1
  unfold andf
  have e1 : ((x : Int) * 256 + (y : Int)).toNat = x * 256 + y := by omega
  have e2 : ((240 : Int)).toNat = 240 := rfl
  rw [e1, e2, k2, k1]; omega
section
variable {A F B C D E H L S : Int} {I : Bool}
/-- What lies in memory behind the pushes. -/
def M5 (A F B C D E H L S : Int) : Mem := psh (psh (psh (psh m5 S (B * 256 + C)) (S - 2) (D * 256 + E)) (S - 4) (H * 256 + L)) (S - 6) (A * 256 + F)
theorem M5_at (hS : 1024 ≤ S) (hS1 : S ≤ 65535) (j : Nat) : M5 A F B C D E H L S j = if (j : Int) = S - 8 then (A * 256 + F) % 256 else if (j : Int) = S - 7 then (A * 256 + F) / 256 else if (j : Int) = S - 6 then (H * 256 + L) % 256 else if (j : Int) = S - 5 then (H * 256 + L) / 256 else
    if (j : Int) = S - 4 then (D * 256 + E) % 256 else if (j : Int) = S - 3 then (D * 256 + E) / 256 else if (j : Int) = S - 2 then (B * 256 + C) % 256 else if (j : Int) = S - 1 then (B * 256 + C) / 256 else m5 j := by
  unfold M5
  rw [psh_at (by omega) (by omega), psh_at (by omega) (by omega), psh_at (by omega) (by omega), psh_at (by omega) (by omega)]
  simp only [show S - 6 - 2 = S - 8 by omega, show S - 6 - 1 = S - 7 by omega, show S - 4 - 2 = S - 6 by omega, show S - 4 - 1 = S - 5 by omega, show S - 2 - 2 = S - 4 by omega, show S - 2 - 1 = S - 3 by omega]
theorem m5_code (j : Nat) : m5 j = 0 ∨ (512 ≤ j ∧ j ≤ 519) := by
  by_cases h : 512 ≤ j ∧ j ≤ 519
  · exact .inr h
  · refine .inl ?_
    simp only [m5, memOf]
    repeat (first | rw [if_neg (by omega)])
theorem run5 (hA : 0 ≤ A ∧ A ≤ 255) (hF : 0 ≤ F ∧ F ≤ 255) (hB : 0 ≤ B ∧ B ≤ 255) (hC : 0 ≤ C ∧ C ≤ 255) (hD : 0 ≤ D ∧ D ≤ 255) (hE : 0 ≤ E ∧ E ≤ 255) (hH : 0 ≤ H ∧ H ≤ 255) (hL : 0 ≤ L ∧ L ≤ 255) (hS : 1024 ≤ S) (hS1 : S ≤ 65535) :
    ∃ all, runM 8 (ofR ⟨A, F, B, C, D, E, H, L, S, 512, I, 0⟩) m5 0 = some (ofR ⟨B, C / 16 * 16, A, F, H, L, D, E, S, 520, I, 0⟩, M5 A F B C D E H L S, all) := by
  have hat := fun j => M5_at (A := A) (F := F) (B := B) (C := C) (D := D) (E := E) (H := H) (L := L) hS hS1 j
  have low : ∀ (m : Mem) (s v : Int) (j : Nat), 1000 ≤ s → s ≤ 65536 → j ≤ 600 → psh m s v j = m j := fun m s v j h1 h2 h3 => by
    rw [psh_at (by omega) h2, if_neg (by omega), if_neg (by omega)]
  have e1 : instrM 7 0 (ofR ⟨A, F, B, C, D, E, H, L, S, 512, I, 0⟩) m5 = some (4, ofR ⟨A, F, B, C, D, E, H, L, S - 2, 513, I, 0⟩, psh m5 S (B * 256 + C)) := by
    have := insG (g := ⟨A, F, B, C, D, E, H, L, S, 512, I, 0⟩) rfl (m := m5) (op := 197) rfl (congrFun (congrFun (i197 I) ⟨A, F, B, C, D, E, H, L, S, 512, I, 0⟩) m5)
    rw [this]
    simp only [z]
    rw [orf_pair hB.1 hC.1 hC.2, show (S - 2) % 65536 = S - 2 by omega, show nxt 512 = 513 by decide]
  have e2 : instrM 7 0 (ofR ⟨A, F, B, C, D, E, H, L, S - 2, 513, I, 0⟩) (psh m5 S (B * 256 + C)) = some (4, ofR ⟨A, F, B, C, D, E, H, L, S - 4, 514, I, 0⟩, psh (psh m5 S (B * 256 + C)) (S - 2) (D * 256 + E)) := by
    have := insG (g := ⟨A, F, B, C, D, E, H, L, S - 2, 513, I, 0⟩) rfl (m := psh m5 S (B * 256 + C)) (op := 213) (by show psh m5 S _ 513 = 213; rw [low _ _ _ _ (by omega) (by omega) (by omega)]; rfl) (congrFun (congrFun (i213 I) ⟨A, F, B, C, D, E, H, L, S - 2, 513, I, 0⟩) _)
    rw [this]
    simp only [z]
    rw [orf_pair hD.1 hE.1 hE.2, show (S - 2 - 2) % 65536 = S - 4 by omega, show nxt 513 = 514 by decide]
  have e3 : instrM 7 0 (ofR ⟨A, F, B, C, D, E, H, L, S - 4, 514, I, 0⟩) (psh (psh m5 S (B * 256 + C)) (S - 2) (D * 256 + E)) = some (4, ofR ⟨A, F, B, C, D, E, H, L, S - 6, 515, I, 0⟩, psh (psh (psh m5 S (B * 256 + C)) (S - 2) (D * 256 + E)) (S - 4) (H * 256 + L)) := by
    have := insG (g := ⟨A, F, B, C, D, E, H, L, S - 4, 514, I, 0⟩) rfl (m := psh (psh m5 S (B * 256 + C)) (S - 2) (D * 256 + E)) (op := 229) (by show psh (psh m5 S _) _ _ 514 = 229; rw [low _ _ _ _ (by omega) (by omega) (by omega), low _ _ _ _ (by omega) (by omega) (by omega)]; rfl) (congrFun (congrFun (i229 I) ⟨A, F, B, C, D, E, H, L, S - 4, 514, I, 0⟩) _)
    rw [this]
    simp only [z]
    rw [orf_pair hH.1 hL.1 hL.2, show (S - 4 - 2) % 65536 = S - 6 by omega, show nxt 514 = 515 by decide]
  have e4 : instrM 7 0 (ofR ⟨A, F, B, C, D, E, H, L, S - 6, 515, I, 0⟩) (psh (psh (psh m5 S (B * 256 + C)) (S - 2) (D * 256 + E)) (S - 4) (H * 256 + L)) = some (4, ofR ⟨A, F, B, C, D, E, H, L, S - 8, 516, I, 0⟩, M5 A F B C D E H L S) := by
    have := insG (g := ⟨A, F, B, C, D, E, H, L, S - 6, 515, I, 0⟩) rfl (m := psh (psh (psh m5 S (B * 256 + C)) (S - 2) (D * 256 + E)) (S - 4) (H * 256 + L)) (op := 245) (by show psh (psh (psh m5 S _) _ _) _ _ 515 = 245; rw [low _ _ _ _ (by omega) (by omega) (by omega), low _ _ _ _ (by omega) (by omega) (by omega), low _ _ _ _ (by omega) (by omega) (by omega)]; rfl) (congrFun (congrFun (i245 I) ⟨A, F, B, C, D, E, H, L, S - 6, 515, I, 0⟩) _)
    rw [this]
    simp only [z]
    rw [orf_pair hA.1 hF.1 hF.2, show (S - 6 - 2) % 65536 = S - 8 by omega, show nxt 515 = 516 by decide]
    rfl
  have lowM : ∀ j : Nat, j ≤ 600 → M5 A F B C D E H L S j = m5 j := fun j hj => by
    rw [hat]; repeat (first | rw [if_neg (by omega)])
  have top : ∀ (s v : Int), 0 ≤ v → v ≤ 65535 → S - 8 ≤ s → s ≤ S - 2 → M5 A F B C D E H L S s.toNat = v % 256 → M5 A F B C D E H L S (s + 1).toNat = v / 256 → topW (M5 A F B C D E H L S) s = v := fun s v v0 v1 s0 s1 h1 h2 => by
    unfold topW
    rw [pk16_id (a := s) (by omega) (by omega), pk16_id (a := (s + 1) % 65536) (by omega) (by omega), show (s + 1) % 65536 = s + 1 by omega, h1, h2, orf_pair (by omega) (by omega) (by omega)]
    omega
  have t1 : topW (M5 A F B C D E H L S) (S - 8) = A * 256 + F := top _ _ (by omega) (by omega) (by omega) (by omega) (by rw [hat, if_pos (by omega)]) (by rw [hat, if_neg (by omega), if_pos (by omega)])
  have t2 : topW (M5 A F B C D E H L S) (S - 6) = H * 256 + L := top _ _ (by omega) (by omega) (by omega) (by omega) (by rw [hat, if_neg (by omega), if_neg (by omega), if_pos (by omega)]) (by rw [hat, if_neg (by omega), if_neg (by omega), if_neg (by omega), if_pos (by omega)])
  have t3 : topW (M5 A F B C D E H L S) (S - 4) = D * 256 + E := top _ _ (by omega) (by omega) (by omega) (by omega) (by rw [hat, if_neg (by omega), if_neg (by omega), if_neg (by omega), if_neg (by omega), if_pos (by omega)]) (by rw [hat, if_neg (by omega), if_neg (by omega), if_neg (by omega), if_neg (by omega), if_neg (by omega), if_pos (by omega)])
  have t4 : topW (M5 A F B C D E H L S) (S - 2) = B * 256 + C := top _ _ (by omega) (by omega) (by omega) (by omega) (by rw [hat, if_neg (by omega), if_neg (by omega), if_neg (by omega), if_neg (by omega), if_neg (by omega), if_neg (by omega), if_pos (by omega)]) (by rw [hat, if_neg (by omega), if_neg (by omega), if_neg (by omega), if_neg (by omega), if_neg (by omega), if_neg (by omega), if_neg (by omega), if_pos (by omega)])
  have e5 : instrM 7 0 (ofR ⟨A, F, B, C, D, E, H, L, S - 8, 516, I, 0⟩) (M5 A F B C D E H L S) = some (3, ofR ⟨A, F, A, F, D, E, H, L, S - 6, 517, I, 0⟩, M5 A F B C D E H L S) := by
    have := insG (g := ⟨A, F, B, C, D, E, H, L, S - 8, 516, I, 0⟩) rfl (m := M5 A F B C D E H L S) (op := 193) (by show M5 A F B C D E H L S 516 = 193; rw [lowM _ (by omega)]; rfl) (congrFun (congrFun (i193 I) ⟨A, F, B, C, D, E, H, L, S - 8, 516, I, 0⟩) _)
    rw [this]
    simp only [z]
    rw [t1, show (A * 256 + F) / 256 = A by omega, show (A * 256 + F) % 256 = F by omega, show (S - 8 + 2) % 65536 = S - 6 by omega, show nxt 516 = 517 by decide]
  have e6 : instrM 7 0 (ofR ⟨A, F, A, F, D, E, H, L, S - 6, 517, I, 0⟩) (M5 A F B C D E H L S) = some (3, ofR ⟨A, F, A, F, H, L, H, L, S - 4, 518, I, 0⟩, M5 A F B C D E H L S) := by
    have := insG (g := ⟨A, F, A, F, D, E, H, L, S - 6, 517, I, 0⟩) rfl (m := M5 A F B C D E H L S) (op := 209) (by show M5 A F B C D E H L S 517 = 209; rw [lowM _ (by omega)]; rfl) (congrFun (congrFun (i209 I) ⟨A, F, A, F, D, E, H, L, S - 6, 517, I, 0⟩) _)
    rw [this]
    simp only [z]
    rw [t2, show (H * 256 + L) / 256 = H by omega, show (H * 256 + L) % 256 = L by omega, show (S - 6 + 2) % 65536 = S - 4 by omega, show nxt 517 = 518 by decide]
  have e7 : instrM 7 0 (ofR ⟨A, F, A, F, H, L, H, L, S - 4, 518, I, 0⟩) (M5 A F B C D E H L S) = some (3, ofR ⟨A, F, A, F, H, L, D, E, S - 2, 519, I, 0⟩, M5 A F B C D E H L S) := by
    have := insG (g := ⟨A, F, A, F, H, L, H, L, S - 4, 518, I, 0⟩) rfl (m := M5 A F B C D E H L S) (op := 225) (by show M5 A F B C D E H L S 518 = 225; rw [lowM _ (by omega)]; rfl) (congrFun (congrFun (i225 I) ⟨A, F, A, F, H, L, H, L, S - 4, 518, I, 0⟩) _)
    rw [this]
    simp only [z]
    rw [t3, show (D * 256 + E) / 256 = D by omega, show (D * 256 + E) % 256 = E by omega, show (S - 4 + 2) % 65536 = S - 2 by omega, show nxt 518 = 519 by decide]
  have e8 : instrM 7 0 (ofR ⟨A, F, A, F, H, L, D, E, S - 2, 519, I, 0⟩) (M5 A F B C D E H L S) = some (3, ofR ⟨B, C / 16 * 16, A, F, H, L, D, E, S, 520, I, 0⟩, M5 A F B C D E H L S) := by
    have := insG (g := ⟨A, F, A, F, H, L, D, E, S - 2, 519, I, 0⟩) rfl (m := M5 A F B C D E H L S) (op := 241) (by show M5 A F B C D E H L S 519 = 241; rw [lowM _ (by omega)]; rfl) (congrFun (congrFun (i241 I) ⟨A, F, A, F, H, L, D, E, S - 2, 519, I, 0⟩) _)
    rw [this]
    simp only [z]
    rw [t4, andf_240 hB.1 hC.1 hC.2, show (B * 256 + C) / 256 = B by omega, show (S - 2 + 2) % 65536 = S by omega, show nxt 519 = 520 by decide]
  exact ⟨_, by rw [run_step e1, run_step e2, run_step e3, run_step e4, run_step e5, run_step e6, run_step e7, run_step e8]; simp only [runM]; rfl⟩
end
/-! ### the law -/
theorem fact5 {g : Rg} {lo hi : Int} (hg : GoodX g) (hpc : g.PC = 512) (hS : 1024 ≤ g.SP) (hlh : (lo = 0 ∧ hi = 65535) ∨ (lo = 1024 ∧ hi = 66559)) : conds5 g lo hi = dirs5 ∧ last5 g = true := by
  have hi' := hg.inr
  obtain ⟨all, hr⟩ := run5 (I := g.IME) hi'.hA hi'.hF hi'.hB hi'.hC hi'.hD hi'.hE hi'.hH hi'.hL hS hi'.hSP.2
  have eg : (⟨g.A, g.F, g.B, g.C, g.D, g.E, g.H, g.L, g.SP, 512, g.IME, 0⟩ : Rg) = g := by
    have h1 := hpc
    have h2 := hg.st
    obtain ⟨a, f, b, c, d, e, h, l, s, p, i, st⟩ := g
    simp only at h1 h2
    subst h1; subst h2; rfl
  rw [eg] at hr
  obtain ⟨k1, k2⟩ := runsR_of (n := 8) (by omega) hr
  have hq : q5 g = ⟨ofR ⟨g.B, g.C / 16 * 16, g.A, g.F, g.H, g.L, g.D, g.E, g.SP, 520, g.IME, 0⟩, M5 g.A g.F g.B g.C g.D g.E g.H g.L g.SP, 8, all, 8⟩ := by unfold q5; rw [hg.id]; exact k2
  have hask : (fin20 (s20 (ofR (bndR g)) m5 8)).isSome = true := by rw [hg.id]; exact k1
  have hst : startS (bndR g) = [true, false] := by
    rw [hg.id]; unfold startS
    have h1 : fOk g = true := by unfold fOk; rw [hg.f16]; rfl
    have h2 : eqRs g g = true := by simp [eqRs]
    rw [h1, h2]; rfl
  have hat := fun j => M5_at (A := g.A) (F := g.F) (B := g.B) (C := g.C) (D := g.D) (E := g.E) (H := g.H) (L := g.L) hS hi'.hSP.2 j
  have hm : (q5 g).m = M5 g.A g.F g.B g.C g.D g.E g.H g.L g.SP := by rw [hq]
  have hA := hi'.hA; have hF := hi'.hF; have hB := hi'.hB; have hC := hi'.hC; have hSP := hi'.hSP
  have hfin : (fin5 ⟨gxB (x5 g) ⟨g.SP, lo, hi⟩, (q5 g).m, 0⟩).isSome = true := by
    unfold fin5
    rw [if_pos]
    · rfl
    · refine ⟨by simp only; omega, by simp only; omega, x5 g, g.SP, ⟨by omega, by omega⟩, ?_, fun j h1 h2 => ?_⟩
      · rcases hlh with ⟨rfl, rfl⟩ | ⟨rfl, rfl⟩
        · exact .inl rfl
        · exact .inr rfl
      · simp only at h1 ⊢
        unfold at5
        rw [hm, hat]
        by_cases hb : 1 ≤ g.SP - j ∧ g.SP - j ≤ 8
        · exact .inr (.inr hb)
        · repeat (first | rw [if_neg (by omega)])
          rcases m5_code j.toNat with h | h
          · exact .inl h
          · exact .inr (.inl (by omega))
  have q1 : in5 (g.SP - 1) = true := decide_eq_true (by omega)
  have q2 : in5 (g.SP - 2) = true := decide_eq_true (by omega)
  have q3 : in5 (g.SP - 8) = true := decide_eq_true (by omega)
  have w1 : (q5 g).m (g.SP - 1).toNat = g.B := by rw [hm, hat]; (repeat (first | rw [if_neg (by omega)])); rw [if_pos (by omega)]; omega
  have w2 : (q5 g).m (g.SP - 2).toNat = g.C := by rw [hm, hat]; (repeat (first | rw [if_neg (by omega)])); rw [if_pos (by omega)]; omega
  have w3 : (q5 g).m (g.SP - 8).toNat = g.F := by rw [hm, hat, if_pos (by omega)]; omega
  have hcmp : cmp5 g (q5 g).c.regs = [false, false, false, false, false, false, false, false, false] := by
    rw [hq]; unfold cmp5 ofR; simp only [BEq.rfl, Bool.not_true]
  constructor
  · unfold conds5 dirs5
    rw [hst, hask, hcmp, hfin, q1, q2, q3, w1, w2]
    simp only [BEq.rfl]; rfl
  · unfold last5; rw [w3]; exact BEq.rfl
theorem cpuStack_true (r : Rg) : ∃ v hp', (law5 r).run = some (.ret v, hp') ∧ ∀ (ρ : Ren) x, VR ρ v x → x = .bool true := by
  have h := bnd_in r
  have hSP := h.hSP
  by_cases hlt : (bndR r).SP < 1024
  · have hg : GoodX (h5 r) := ⟨⟨h.hA, h.hF, h.hB, h.hC, h.hD, h.hE, h.hH, h.hL, ⟨by show 0 ≤ (bndR r).SP + 1024; omega, by show (bndR r).SP + 1024 ≤ 65535; omega⟩, ⟨by show (0 : Int) ≤ 512; omega, by show (512 : Int) ≤ 65535; omega⟩, h.hSt⟩, bnd_f16 r, rfl⟩
    obtain ⟨e1, e2⟩ := fact5 hg rfl (by show 1024 ≤ (bndR r).SP + 1024; omega) (.inr ⟨rfl, rfl⟩)
    exact lawPath_run (congrFun l5_1 r) (by rw [e1, decide_eq_true hlt]) e2
  · have hg : GoodX (g5 r) := ⟨⟨h.hA, h.hF, h.hB, h.hC, h.hD, h.hE, h.hH, h.hL, h.hSP, ⟨by show (0 : Int) ≤ 512; omega, by show (512 : Int) ≤ 65535; omega⟩, h.hSt⟩, bnd_f16 r, rfl⟩
    obtain ⟨e1, e2⟩ := fact5 hg rfl (by show 1024 ≤ (bndR r).SP; omega) (.inl ⟨rfl, rfl⟩)
    exact lawPath_run (congrFun l5_0 r) (by rw [e1, decide_eq_false hlt]) e2
end Go.Proofs.YtmlfmkebljdoiaaGreatDoor
