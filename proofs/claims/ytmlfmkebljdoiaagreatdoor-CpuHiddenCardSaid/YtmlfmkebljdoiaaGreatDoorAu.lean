/- Own text: two rows of whole numbers as arguments. -/
import Derived.Test.YtmlfmkebljdoiaaGreatDoorAs
namespace Go.Proofs.YtmlfmkebljdoiaaGreatDoor
open Go.Ev Go.Ev.Tr Go.Proofs Go.ChangeShapes Go.WideShapes Go.ChangeAt Go.RowKit Go.Deep
set_option maxRecDepth 1000000
theorem rowAt_off {P : Program} {fits : TypeId → Bool} : ∀ {d : Nat} {e : TypeId} {count off n : Nat}, rowAt P fits d e count off n = true → off ≤ count * P.cellsOf e
  | 0, _, _, _, _, h => by simp [rowAt] at h
  | d + 1, e, count, off, n, h => by
    unfold rowAt at h
    simp only at h
    split at h
    · cases h
    · rename_i hs
      have hdm := Nat.div_add_mod off (P.cellsOf e)
      have hlt := Nat.mod_lt off (Nat.pos_of_ne_zero hs)
      simp only [Bool.or_eq_true, Bool.and_eq_true, beq_iff_eq, decide_eq_true_eq] at h
      rcases h with ⟨⟨h1, h2⟩, _⟩ | ⟨h1, _⟩
      · have : P.cellsOf e * (off / P.cellsOf e) ≤ P.cellsOf e * count := Nat.mul_le_mul_left _ (by omega)
        rw [Nat.mul_comm count]; omega
      · have : P.cellsOf e * (off / P.cellsOf e + 1) ≤ P.cellsOf e * count := Nat.mul_le_mul_left _ (by omega)
        rw [Nat.mul_add, Nat.mul_one] at this
        rw [Nat.mul_comm count]; omega
theorem row_off {W : World} {r : Reach} {base B off len cap : Nat} {row : List Value} {t : TypeId} {fz : Nat × Nat} (hv : Value.okWide Tryz.prog W r base 44 (.slice (some ⟨B, off, none⟩) len cap)) (hB : W.heap[B]? = some (.cells ⟨row⟩ t fz)) : off ≤ row.length := by
  unfold Value.okWide at hv
  rw [und44] at hv
  simp only at hv
  unfold Cell.okWide at hv
  rw [und44] at hv
  simp only [Cell.ok, und44] at hv
  obtain ⟨_, _, _, _, rw', cells, h1, h2⟩ := hv
  unfold World.shape? at h1
  simp only [hB, Option.some.injEq, Prod.mk.injEq] at h1
  obtain ⟨rfl, rfl⟩ := h1
  have hd : Tryz.prog.depth ≠ 0 := by unfold Program.depth; omega
  obtain ⟨d, hd⟩ := Nat.exists_eq_succ_of_ne_zero hd
  rw [hd] at h2
  unfold liesAt at h2
  rw [und3] at h2
  simp only [Bool.or_false] at h2
  have := rowAt_off h2
  have h5 := Nat.div_mul_le_self row.length (Tryz.prog.cellsOf t)
  exact Nat.le_trans this h5
end Go.Proofs.YtmlfmkebljdoiaaGreatDoor
