/- Own text: laws with a row of whole numbers: where they begin, how they end. -/
import Derived.Test.YtmlfmkebljdoiaaGreatDoorAr
import Derived.Test.YtmlfmkebljdoiaaGreatDoorMm
namespace Go.Proofs.YtmlfmkebljdoiaaGreatDoor
open Go.Ev Go.Ev.Tr Go.Proofs Go.ChangeShapes Go.WideShapes Go.ChangeAt Go.RowKit Go.Deep
set_option maxRecDepth 1000000
def ren1 (B tot : Nat) : Ren := fun id => match id with
  | 0 => some (0, 3)
  | 1 => some (1, 8)
  | 2 => some (B, tot)
  | _ => none
theorem ren1_le (B tot : Nat) : Ren.le ren0 (ren1 B tot) := fun i x h => by
  match i with
  | 0 => exact h
  | 1 => exact h
  | i + 2 => cases h
theorem ro0_lt {id : Nat} {b : Blk} (h : ro0 id = some b) : id < 2 := by
  unfold ro0 at h
  split at h
  · rename_i e; have := Nat.eq_of_beq_eq_true e; omega
  · split at h
    · rename_i e; have := Nat.eq_of_beq_eq_true e; omega
    · cases h
theorem relS {W : World} {B tot : Nat} {ro : RO} (hL : laidMetH Tryz.prog laidL W) (hsh : W.ShapedOpen Tryz.prog) (hro : ∀ id b, ro id = some b → ro0 id = some b ∨ (id = 2 ∧ ∃ o, W.heap[B]? = some o ∧ BR (ren1 B tot) tot b o)) :
    Rel ⟨W, ren1 B tot, 3⟩ (fun _ => False) 2 ro (ren1 B tot) (startHp 3 1000000) W := by
  have h0 := rel0 hL hsh
  refine ⟨fun id b h => ?_, fun i j b c B t t' hi hj e1 e2 => .inr ⟨rfl, rfl⟩, fun id b h => (by cases h), fun id i1 i2 => ?_, fun _ _ _ => rfl, Nat.le_refl _, rfl, rfl, rfl, fun g hg => ?_, fun id x hx => .inl hx, Nat.le_refl _⟩
  · have h : ro id = some b := h
    rcases hro id b h with h1 | ⟨rfl, o, h1, h2⟩
    · obtain ⟨B1, t1, o1, e1, e2, e3, _⟩ := h0.blk id b h1
      exact ⟨B1, t1, o1, ren1_le B tot _ _ e1, e2, BR.mono (ren1_le B tot) _ _ e3, .inl rfl⟩
    · exact ⟨B, tot, o, rfl, h1, h2, .inl rfl⟩
  · have i1 : 3 ≤ id := i1
    match id, i1 with
    | id + 3, _ => rfl
  · match g, hg with
    | 0, _ => exact ⟨3, rfl⟩
    | 1, _ => exact ⟨8, rfl⟩
theorem rel1 {W : World} {B off len cap : Nat} {zs : List Int} {row : List Value} {t : TypeId} {fz : Nat × Nat} (hL : laidMetH Tryz.prog laidL W) (hsh : W.ShapedOpen Tryz.prog) (hR : RowI W B off len cap zs row t fz) :
    Rel ⟨W, ren1 B row.length, 3⟩ (fun _ => False) 2 (ro1 off zs) (ren1 B row.length) (startHp 3 1000000) W := by
  refine relS hL hsh fun id b h => ?_
  unfold ro1 at h
  split at h
  · rename_i e
    have e := Nat.eq_of_beq_eq_true e
    injection h with h; subst h
    refine .inr ⟨e, _, hR.hB, row, t, fz, rfl, rfl, fun i hi => ?_⟩
    obtain ⟨h1, h2, h3⟩ := hR.cell i hi
    exact ⟨h1, h2, h3⟩
  · exact .inl h
theorem relZ {W : World} (B tot : Nat) (hL : laidMetH Tryz.prog laidL W) (hsh : W.ShapedOpen Tryz.prog) : Rel ⟨W, ren1 B tot, 3⟩ (fun _ => False) 2 ro0 (ren1 B tot) (startHp 3 1000000) W :=
  relS hL hsh fun _ _ h => .inl h
theorem mvV_VR {W : World} {B off len cap : Nat} {zs : List Int} {row : List Value} {t : TypeId} {fz : Nat × Nat} (hR : RowI W B off len cap zs row t fz) (hne : zs ≠ []) : VR (ren1 B row.length) (mvV off len) (.slice (some ⟨B, off, none⟩) len cap) := by
  have h1 := hR.hl
  have h2 := hR.hc
  have h3 := hR.hz
  have hpos : 0 < zs.length := List.length_pos_iff.2 hne
  have h4 := (hR.cell (zs.length - 1) (by omega)).1
  have h5 := (List.getElem?_eq_some_iff.1 h4).1
  simp only [maxLen] at h2
  refine ⟨B, row.length, off, len, cap, rfl, rfl, ⟨rfl, by show (-1 : Int) ≤ off; omega, Int.le_refl _⟩, ⟨rfl, by show (0 : Int) ≤ len; omega, by show (len : Int) ≤ 9223372036854775807; omega⟩, by show (0 : Int) ≤ cap; omega, by simp only [big63]; omega, h1, by omega⟩
theorem mv0_VR (B off : Nat) : VR (ren1 B off) (mv0 off) (.slice (some ⟨B, off, none⟩) 0 0) :=
  ⟨B, off, off, 0, 0, rfl, rfl, ⟨rfl, by show (-1 : Int) ≤ off; omega, Int.le_refl _⟩, IR.lit 0, Int.le_refl _, by decide, Nat.le_refl _, by omega⟩
/-! ### how a law ends -/
theorem endKept {W W' : World} {ρ ρ' : Ren} {n : Nat} {ro : RO} {hp : Hp} (hrel : Rel ⟨W, ρ, n⟩ (fun _ => False) 2 ro ρ' hp W') : W.keptBut W' (fun _ => False) := by
  refine ⟨hrel.os, hrel.output, fun i hi => ?_⟩
  have := hrel.frame i hi (fun h => h)
  rw [this]
  cases hw : W.heap[i]? with
  | none => rfl
  | some o => cases o <;> first | rfl | exact ⟨rfl, rfl, rfl, fun _ _ => rfl⟩ | exact .inr ⟨rfl, rfl⟩
theorem lawEndR {E : Env} {call : CallF} {f : Nat} {fn : Func} {c : C2} {l : List Value} {W : World} {av : List V} {v : V} {hp hp' : Hp} {ro : RO} {ρ : Ren} {n : Nat} (hE : EnvOK Tryz.prog E) (hG : E.G = 2) (hc : CallOK Tryz.prog E.G call) (hf : Tryz.prog.funcs[f]? = some fn) (hb : fn.body = some c.erase)
    (hok : c.ok Tryz.prog E ⟨W, ρ, n⟩ (fun _ => False) ro fn.ntmps) (hrun : (bodyF2 E 10000 call ro fn c av hp).run = some (.ret v, hp')) (hv : ∀ (ρ : Ren) x, VR ρ v x → x = .bool true)
    (hrel : Rel ⟨W, ρ, n⟩ (fun _ => False) E.G ro ρ hp W) (hl : VRs ρ av l) : Calls Tryz.prog f ⟨l⟩ W fun e W' => e = .returned (.bool true) ∧ W.keptBut W' (fun _ => False) := by
  have g2 := bodyF2_sound hE hc hf hb hok hrun hrel hl
  refine g2.mono fun e W' ⟨ρ', _, hrel', x, hx, hvr⟩ => ?_
  have := hv _ _ hvr
  subst this
  rw [hG] at hrel'
  exact ⟨hx, endKept hrel'⟩
theorem lawEndC {f : Nat} {l : List Value} {W : World} {av : List V} {v : V} {hp hp' : Hp} {ρ : Ren} {n : Nat} (hrun : (call7 ro0 f av hp).run = some (.ret v, hp')) (hv : ∀ (ρ : Ren) x, VR ρ v x → x = .bool true)
    (hrel : Rel ⟨W, ρ, n⟩ (fun _ => False) 2 ro0 ρ hp W) (hl : VRs ρ av l) : Calls Tryz.prog f ⟨l⟩ W fun e W' => e = .returned (.bool true) ∧ W.keptBut W' (fun _ => False) := by
  obtain ⟨_, g2⟩ := call7OK _ _ _ _ _ hrun _ _ _ W l hrel hl
  refine g2.mono fun e W' ⟨ρ', _, hrel', x, hx, hvr⟩ => ?_
  have := hv _ _ hvr
  subst this
  exact ⟨hx, endKept hrel'⟩
theorem regsA_VR1 {B tot : Nat} {r : Rg} (h : InW r) : VR (ren1 B tot) (regsA r) (regsV r) := regsA_VR h
/-- CpuMoves, on whatever row. -/
theorem calledM {W : World} (hL : laidMetH Tryz.prog laidL W) (hsh : W.ShapedOpen Tryz.prog) (r : Rg) (hr : InW r) {v : Value}
    (hv : v = .slice none 0 0 ∨ ∃ B off len cap zs row t fz, v = .slice (some ⟨B, off, none⟩) len cap ∧ RowI W B off len cap zs row t fz) :
    Calls Tryz.prog 4 #[regsV r, v] W fun e W' => e = .returned (.bool true) ∧ W.keptBut W' (fun _ => False) := by
  rcases hv with rfl | ⟨B, off, len, cap, zs, row, t, fz, rfl, hR⟩
  · obtain ⟨v, hp', c1, c2⟩ := cpuMoves_none r
    exact lawEndC c1 c2 (rel0 hL hsh) ⟨_, _, rfl, regsA_VR hr, _, _, rfl, rfl, rfl⟩
  · by_cases hne : zs = []
    · have h1 := hR.hl
      have h2 := hR.hz
      rw [hne] at h2
      have e1 : cap = 0 := by simpa using h2.symm
      have e2 : len = 0 := by omega
      subst e1; subst e2
      obtain ⟨v, hp', c1, c2⟩ := cpuMoves_zero r off
      exact lawEndC c1 c2 (relZ B off hL hsh) ⟨_, _, rfl, regsA_VR hr, _, _, rfl, mv0_VR B off, rfl⟩
    · have h1 := hR.hl
      have h2 := hR.hz
      obtain ⟨v, hp', c1, c2⟩ := cpuMoves_some r zs off len (by omega) (by omega)
      exact lawEndR env9OK rfl call9OK Tryz.func4 (c2_4_eq off zs) (ok4 off zs _ _ (show 3 ≤ 8 by omega)) c1 c2 (rel1 hL hsh hR) ⟨_, _, rfl, regsA_VR hr, _, _, rfl, mvV_VR hR hne, rfl⟩
end Go.Proofs.YtmlfmkebljdoiaaGreatDoor
