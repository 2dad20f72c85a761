/- Own text: a row of whole numbers as an argument. -/
import Derived.Test.YtmlfmkebljdoiaaGreatDoorCu
import Derived.ChangeSlices
namespace Go.Proofs.YtmlfmkebljdoiaaGreatDoor
open Go.Ev Go.Ev.Tr Go.Proofs Go.ChangeShapes Go.WideShapes Go.ChangeAt Go.RowKit Go.Deep
set_option maxRecDepth 1000000
theorem laidOutP : laidOutB Tryz.prog = true := by kernel_rfl
theorem und44 : Tryz.prog.underlying 44 = some (.slice 3) := Tryz.underlying44
theorem size44 : (44 : Nat) < Tryz.prog.types.size := of_decide_eq_true (by kernel_rfl)
/-- What is known of such a row. -/
structure RowI (W : World) (B off len cap : Nat) (zs : List Int) (row : List Value) (t : TypeId) (fz : Nat × Nat) : Prop where
  hl : len ≤ cap
  hc : cap ≤ maxLen
  hz : zs.length = cap
  hB : W.heap[B]? = some (.cells ⟨row⟩ t fz)
  cell : ∀ i, (h : i < zs.length) → row[off + i]? = some (.int .i64 zs[i]) ∧ In64 zs[i]
section
variable {H : Type} {enc : TypeId × Value → H} {W : World}
theorem open_rowI {r : Reach} {base : Nat} {v : Value} {d : DataW H} {p : List MemPlace} (hv : Value.okWide Tryz.prog W r base 44 v) (h : DataW.Trod enc Tryz.prog W 0 (fun _ => true) true 44 v d p) :
    (v = .slice none 0 0 ∨ ∃ B off len cap zs row t fz, v = .slice (some ⟨B, off, none⟩) len cap ∧ RowI W B off len cap zs row t fz) ∧
      ∀ (W' : World) (sp' : Nat → Bool), W.keptBut W' (fun _ => False) → (∀ b, b < W.heap.size → sp' b = true) → DataW.Trod enc Tryz.prog W' 0 sp' true 44 v d p := by
  have hT := h
  obtain ⟨fuel, hf⟩ := h
  have hform : v = .slice none 0 0 ∨ ∃ a len cap, v = .slice (some a) len cap ∧ a.spot = none ∧ ∃ x, W.shape? a.block = some x := by
    unfold Value.okWide at hv
    rw [und44] at hv
    simp only at hv
    unfold Cell.okWide at hv
    rw [und44] at hv
    cases v <;> simp only [Cell.ok, und44] at hv <;> try (exact hv.elim)
    rename_i a len cap
    cases a with
    | none =>
      cases len with
      | zero =>
        cases cap with
        | zero => exact .inl rfl
        | succ n => exact hv.elim
      | succ n => exact hv.elim
    | some a => exact .inr ⟨a, len, cap, rfl, hv.2.2.2.1, by obtain ⟨row, cells, h1, _⟩ := hv.2.2.2.2; exact ⟨_, h1⟩⟩
  have hcells : ∀ (a : Option Addr) (l c : Nat), (Value.slice a l c).cells.toList = [.slice a l c] := fun _ _ _ => rfl
  rcases hform with rfl | ⟨a, len, cap, rfl, hspot, x, hshape⟩
  · refine ⟨.inl rfl, fun W' sp' _ _ => ?_⟩
    rw [hcells] at hf
    rcases open_ints und44 und3 cells3 hf with ⟨_, he⟩ | ⟨a, len, cap, zs, he, _⟩
    · simp only [Prod.mk.injEq] at he
      obtain ⟨rfl, rfl⟩ := he
      exact WideElems.Trod_stays laidOutP (by kernel_rfl) size44 hT (fun p hp => by cases hp) (fun p hp => by cases hp)
    · simp at he
  · rw [hcells] at hf
    rcases open_ints und44 und3 cells3 hf with ⟨he, _⟩ | ⟨a', len', cap', zs, he, hb, hl, hc, hz, hx, hcell, hw⟩
    · simp at he
    · simp only [List.cons.injEq, Value.slice.injEq, Option.some.injEq, and_true] at he
      obtain ⟨rfl, rfl, rfl⟩ := he
      simp only [if_true] at hz
      simp only [Prod.mk.injEq] at hx
      obtain ⟨rfl, rfl⟩ := hx
      obtain ⟨B, off, spot⟩ := a
      simp only at hspot hshape
      subst hspot
      obtain ⟨row, t, fz, hB⟩ : ∃ row t fz, W.heap[B]? = some (.cells ⟨row⟩ t fz) := by
        unfold World.shape? at hshape
        split at hshape
        · rename_i c e f hc'
          exact ⟨c.toList, e, f, hc'⟩
        · cases hshape
      have hcell' : ∀ i, (h : i < zs.length) → row[off + i]? = some (.int .i64 zs[i]) := fun i h => by
        have h1 := hcell i h
        rw [add_plain] at h1
        unfold World.cell? at h1
        simp only [hB] at h1
        have e : zs.getD i 0 = zs[i] := by simp [List.getD_eq_getElem?_getD, h]
        rw [e] at h1
        simpa using h1
      refine ⟨.inr ⟨B, off, len, cap, zs, row, t, fz, rfl, hl, hc, hz, hB, fun i h => ⟨hcell' i h, ?_⟩⟩, fun W' sp' hk hsp => ?_⟩
      · exact in64_of (hw _ (List.getElem_mem h))
      · refine WideElems.Trod_stays laidOutP (by kernel_rfl) size44 hT (fun p hp => ?_) (fun p hp => ?_)
        · simp only [MemPlace.row, List.mem_map] at hp
          obtain ⟨i, _, rfl⟩ := hp
          have hk' := hk.2.2 B (lt_of_heap hB)
          rw [hB] at hk'
          show W'.cell? _ = W.cell? _
          unfold World.cell?
          simp only [hB]
          cases hB' : W'.heap[B]? with
          | none => rw [hB'] at hk'; simp at hk'
          | some o =>
            rw [hB'] at hk'
            cases o with
            | cells c' t' fr' =>
              obtain ⟨_, _, _, h4⟩ := hk'
              simp only
              rw [h4 _ (fun h => h)]
            | map es cl => simp at hk'
            | stringIter s p => simp at hk'
            | mapIter _ => simp at hk'
            | _ => simp at hk'
        · simp only [MemPlace.row, List.mem_map] at hp
          obtain ⟨i, _, rfl⟩ := hp
          exact hsp B (lt_of_heap hB)
end
end Go.Proofs.YtmlfmkebljdoiaaGreatDoor
