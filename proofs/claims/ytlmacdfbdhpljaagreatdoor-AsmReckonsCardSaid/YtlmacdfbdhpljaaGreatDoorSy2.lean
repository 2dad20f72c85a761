/- Own text: a row of pairs of numbers as an argument. -/
import Derived.Test.YtlmacdfbdhpljaaGreatDoorLw
import Derived.ChangeSlices
import Derived.Deep.SlicePairs
import Derived.Below
namespace Go.Proofs.YtlmacdfbdhpljaaGreatDoor
open Go.Ev Go.Ev.Tr Go.Proofs Go.ChangeShapes Go.WideShapes Go.ChangeAt Go.RowKit
set_option maxRecDepth 1000000
theorem laidOutQ : laidOutB Tryz.prog = true := by kernel_rfl
theorem und24 : Tryz.prog.underlying 24 = some (.slice 28) := by kernel_rfl
theorem und28 : ∃ f0 f1, Tryz.prog.underlying 28 = some (.struct #[f0, f1]) ∧ f0.type = 3 ∧ f1.type = 3 ∧ f0.offset = 0 ∧ f1.offset = 1 := ⟨_, _, Tryz.underlying28, rfl, rfl, rfl, rfl⟩
theorem cells28 : Tryz.prog.cellsOf 28 = 2 := by kernel_rfl
theorem cells3 : Tryz.prog.cellsOf 3 = 1 := by kernel_rfl
theorem size24 : (24 : Nat) < Tryz.prog.types.size := of_decide_eq_true (by kernel_rfl)
/-- Pairs of numbers lie here. -/
structure PiecesAt (W : World) (B off len : Nat) (f g : Nat → Int) : Prop where
  lt : 0 < len → B < W.heap.size
  lm : len ≤ maxLen
  cf : ∀ i, i < len → W.cell? ⟨B, off + i * 2, none⟩ = some (.int .i64 (f i))
  cg : ∀ i, i < len → W.cell? ⟨B, off + i * 2 + 1, none⟩ = some (.int .i64 (g i))
  bf : ∀ i, i < len → kmin .i64 ≤ f i ∧ f i ≤ kmax .i64
  bg : ∀ i, i < len → kmin .i64 ≤ g i ∧ g i ≤ kmax .i64
section
variable {H : Type} {enc : TypeId × Value → H} {W : World}
theorem cell_lt {a : Addr} {v : Value} (h : W.cell? a = some v) : a.block < W.heap.size := by
  unfold World.cell? at h
  cases hb : W.heap[a.block]? with
  | none => simp [hb] at h
  | some o => exact lt_of_heap hb
theorem open_rowP {r : Reach} {base : Nat} {v : Value} {d : DataW H} {p : List MemPlace} (hv : Value.okWide Tryz.prog W r base 24 v) (h : DataW.Trod enc Tryz.prog W 0 (fun _ => true) true 24 v d p) :
    (v = .slice none 0 0 ∨ ∃ B off len cap f g, v = .slice (some ⟨B, off, none⟩) len cap ∧ PiecesAt W B off len f g) ∧
      ∀ (W' : World) (sp' : Nat → Bool), Below W.heap.size W W' → (∀ b, b < W.heap.size → sp' b = true) → DataW.Trod enc Tryz.prog W' 0 sp' true 24 v d p := by
  have hT := h
  obtain ⟨fuel, hf⟩ := h
  obtain ⟨f0, f1, hu, t0, t1, o0, o1⟩ := und28
  have hform : v = .slice none 0 0 ∨ ∃ a len cap, v = .slice (some a) len cap ∧ a.spot = none := by
    unfold Value.okWide at hv
    rw [und24] at hv
    simp only at hv
    unfold Cell.okWide at hv
    rw [und24] at hv
    cases v <;> simp only [Cell.ok, und24] at hv <;> try (exact hv.elim)
    rename_i a len cap
    cases a with
    | none =>
      cases len with
      | zero =>
        cases cap with
        | zero => exact .inl rfl
        | succ n => exact hv.elim
      | succ n => exact hv.elim
    | some a => exact .inr ⟨a, len, cap, rfl, hv.2.2.2.1⟩
  have hcells : ∀ (a : Option Addr) (l c : Nat), (Value.slice a l c).cells.toList = [.slice a l c] := fun _ _ _ => rfl
  rcases hform with rfl | ⟨a, len, cap, rfl, hspot⟩
  · refine ⟨.inl rfl, fun W' sp' _ _ => ?_⟩
    rw [hcells] at hf
    rcases Go.Deep.open_slice_pairs und24 hu cells28 o0 o1 (by rw [t0]; exact cells3) (by rw [t1]; exact cells3) hf with ⟨_, he⟩ | ⟨a, len, cap, m, n, V0, V1, D0, D1, P0, P1, he, _⟩
    · simp only [Prod.mk.injEq] at he
      obtain ⟨rfl, rfl⟩ := he
      exact WideElems.Trod_stays laidOutQ (by kernel_rfl) size24 hT (fun p hp => by cases hp) (fun p hp => by cases hp)
    · simp at he
  · rw [hcells] at hf
    rcases Go.Deep.open_slice_pairs und24 hu cells28 o0 o1 (by rw [t0]; exact cells3) (by rw [t1]; exact cells3) hf with ⟨he, _⟩ | ⟨a', len', cap', m, n, V0, V1, D0, D1, P0, P1, he, hb, hl, hc, hm, hx, hcell⟩
    · simp at he
    · simp only [List.cons.injEq, Value.slice.injEq, Option.some.injEq, and_true] at he
      obtain ⟨rfl, rfl, rfl⟩ := he
      simp only [if_true] at hm
      subst hm
      simp only [Prod.mk.injEq] at hx
      obtain ⟨rfl, rfl⟩ := hx
      obtain ⟨B, off, spot⟩ := a
      simp only at hspot
      subst hspot
      have key : ∀ i, i < m → ∃ q : Int × Int, W.cell? ⟨B, off + i * 2, none⟩ = some (.int .i64 q.1) ∧ W.cell? ⟨B, off + i * 2 + 1, none⟩ = some (.int .i64 q.2) ∧ (kmin .i64 ≤ q.1 ∧ q.1 ≤ kmax .i64) ∧ (kmin .i64 ≤ q.2 ∧ q.2 ≤ kmax .i64) ∧ P0 i = [] ∧ P1 i = [] := by
        intro i hi
        obtain ⟨c0, c1, d0, d1⟩ := hcell i hi
        rw [t0] at d0
        rw [t1] at d1
        obtain ⟨n0, e0, y0, w0⟩ := DataW.trod_int Tryz.underlying3 d0
        obtain ⟨n1, e1, y1, w1⟩ := DataW.trod_int Tryz.underlying3 d1
        simp only [List.cons.injEq, and_true] at e0 e1
        simp only [Prod.mk.injEq] at y0 y1
        rw [e0, add_plain] at c0
        rw [e1, add_plain] at c1
        exact ⟨(n0, n1), c0, by simpa [Nat.add_assoc] using c1, in64_of w0, in64_of w1, y0.2, y1.2⟩
      obtain ⟨q, hq⟩ := Go.Deep.choose_lt key
      have hlt : 0 < m → B < W.heap.size := fun h => cell_lt (hq 0 h).1
      have hpl : ∀ p ∈ MemPlace.row ⟨B, off, none⟩ (m * 2) ++ (List.range m).flatMap (fun i => P0 i ++ P1 i), ∃ o, p = .cell B o ∧ B < W.heap.size := by
        intro p hp
        rcases List.mem_append.1 hp with hp | hp
        · simp only [MemPlace.row, List.mem_map, List.mem_range] at hp
          obtain ⟨i, hi, rfl⟩ := hp
          exact ⟨_, rfl, hlt (by omega)⟩
        · rw [List.mem_flatMap] at hp
          obtain ⟨i, hi, hp⟩ := hp
          have hi := List.mem_range.1 hi
          rw [(hq i hi).2.2.2.2.1, (hq i hi).2.2.2.2.2] at hp
          cases hp
      refine ⟨.inr ⟨B, off, len, m, fun i => (q i).1, fun i => (q i).2, rfl, ⟨fun h => hlt (by omega), by omega, fun i h => (hq i (by omega)).1, fun i h => (hq i (by omega)).2.1, fun i h => (hq i (by omega)).2.2.1, fun i h => (hq i (by omega)).2.2.2.1⟩⟩, fun W' sp' hk hsp => ?_⟩
      refine WideElems.Trod_stays laidOutQ (by kernel_rfl) size24 hT (fun p hp => ?_) (fun p hp => ?_)
      · obtain ⟨o, rfl, hB⟩ := hpl p hp
        exact hk.same hB
      · obtain ⟨o, rfl, hB⟩ := hpl p hp
        exact hsp B hB
end
end Go.Proofs.YtlmacdfbdhpljaaGreatDoor
