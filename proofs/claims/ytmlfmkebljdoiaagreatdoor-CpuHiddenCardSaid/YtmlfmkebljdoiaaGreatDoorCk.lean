/- Own text: from the statements' premises to the evaluator's, and back. -/
import Derived.Test.YtmlfmkebljdoiaaGreatDoorCv
import Derived.Test.YtmlfmkebljdoiaaGreatDoorCards
import Derived.Test.YtmlfmkebljdoiaaGreatDoorTie
import Derived.WalkKit
import Derived.ProofKit
import Derived.OpenShut
import Derived.Deep.DeepHandedRow
import Derived.Deep.Fields
import Derived.Lib.LaidTab
import Derived.Lib.SmallJoins
namespace Go.Proofs.YtmlfmkebljdoiaaGreatDoor
open Go.Ev Go.Ev.Tr Go.Proofs Go.ChangeShapes Go.WideShapes Go.ChangeAt Go.RowKit Go.Deep
set_option maxRecDepth 1000000
/-! ### what the package-level variables hold -/
def laidL : List (String × DataW Unit) := [("arcade/alu.masks", Rows.laid_arcade_alu_masks), ("arcade/cpu.idle", Rows.laid_arcade_cpu_idle)]
theorem gMasks : Tryz.prog.globalNamed "arcade/alu.masks" = some 1 := by kernel_rfl
theorem gIdle : Tryz.prog.globalNamed "arcade/cpu.idle" = some 0 := by kernel_rfl
theorem tMasks : (Tryz.prog.globals[1]?).map (·.type) = some 148 := by kernel_rfl
theorem tIdle : (Tryz.prog.globals[0]?).map (·.type) = some 51 := by kernel_rfl
theorem cells148 : Tryz.prog.cellsOf 148 = 8 := by kernel_rfl
theorem cells5 : Tryz.prog.cellsOf 5 = 1 := by kernel_rfl
theorem cells3 : Tryz.prog.cellsOf 3 = 1 := by kernel_rfl
theorem cells4 : Tryz.prog.cellsOf 4 = 1 := by kernel_rfl
theorem cells51 : Tryz.prog.cellsOf 51 = 3 := by kernel_rfl
theorem cells23 : Tryz.prog.cellsOf 23 = 12 := by kernel_rfl
theorem und5 : Tryz.prog.underlying 5 = some (.int .u8) := Tryz.underlying5
theorem und3 : Tryz.prog.underlying 3 = some (.int .i64) := Tryz.underlying3
def fld (n : String) (t i b : Nat) : Field := { name := n, type := t, offset := i, embedded := false, tag := "", pkgPath := "", byteOffset := b }
def regFs : Array Field := #[fld "A" 3 0 0, fld "F" 3 1 8, fld "B" 3 2 16, fld "C" 3 3 24, fld "D" 3 4 32, fld "E" 3 5 40, fld "H" 3 6 48, fld "L" 3 7 56, fld "SP" 3 8 64, fld "PC" 3 9 72, fld "IME" 4 10 80, fld "State" 3 11 88]
def wantFs : Array Field := #[fld "Kind" 3 0 0, fld "Addr" 3 1 8, fld "Data" 3 2 16]
theorem und51 : Tryz.prog.underlying 51 = some (.struct wantFs) := by kernel_rfl
theorem und23 : Tryz.prog.underlying 23 = some (.struct regFs) := by kernel_rfl
theorem hone51 : oneCellFields Tryz.prog wantFs = true := by kernel_rfl
theorem hone23 : oneCellFields Tryz.prog regFs = true := by kernel_rfl
theorem masks_cells {W : World} (h : laidMetH Tryz.prog laidL W) : W.var? Tryz.prog "arcade/alu.masks" = some #[.int .u8 1, .int .u8 2, .int .u8 4, .int .u8 8, .int .u8 16, .int .u8 32, .int .u8 64, .int .u8 128] :=
  Lib.tabIs_of_head (zs := [1, 2, 4, 8, 16, 32, 64, 128]) (rest := [("arcade/cpu.idle", Rows.laid_arcade_cpu_idle)]) gMasks tMasks Tryz.underlying148 und5 cells5 cells148 h
theorem idle_cells {W : World} (h : laidMetH Tryz.prog laidL W) : W.var? Tryz.prog "arcade/cpu.idle" = some #[.int .i64 0, .int .i64 0, .int .i64 0] := by
  have h' : laidMet Tryz.prog laidL W := h
  obtain ⟨ps, ⟨g1, t1, cs1, f1, p1, q1, _, _, _, _, ⟨g, t, cs, fuel, p, q, hg, ht, hv, htr, _⟩, _⟩, _⟩ := h'
  rw [gIdle] at hg; injection hg with hg; subst hg
  rw [tIdle] at ht; injection ht with ht; subst ht
  obtain ⟨xs, n, _, hx, hl, hlen, hf⟩ := DataW.trod_struct und51 htr
  have key : ∀ (i : Nat) (f : Field), wantFs[i]? = some f → f.type = 3 → ∃ m, (cs.toList.drop f.offset).take (Tryz.prog.cellsOf f.type) = [.int .i64 m] ∧ xs[i]? = some (.lit (.int .i64 m), []) := fun i f hi ht => by
    have h1 := hf i f hi
    rw [ht] at h1 ⊢
    have hi' : i < xs.length := by rw [hlen]; exact (Array.getElem?_eq_some_iff.1 hi).1
    rw [List.getElem?_eq_getElem hi'] at h1
    obtain ⟨m, e1, e2, _⟩ := DataW.trod_int und3 h1
    exact ⟨m, e1, by rw [List.getElem?_eq_getElem hi', e2]⟩
  obtain ⟨m0, a0, b0⟩ := key 0 (fld "Kind" 3 0 0) rfl rfl
  obtain ⟨m1, a1, b1⟩ := key 1 (fld "Addr" 3 1 8) rfl rfl
  obtain ⟨m2, a2, b2⟩ := key 2 (fld "Data" 3 2 16) rfl rfl
  rw [cells51] at hl
  have hxs : xs.map (·.1) = [.lit (.int .i64 0), .lit (.int .i64 0), .lit (.int .i64 0)] := by
    have := congrArg Prod.fst hx
    injection this with this
    exact this.symm
  match xs, hlen, b0, b1, b2, hxs with
  | [x0, x1, x2], _, b0, b1, b2, hxs =>
    simp only [List.getElem?_cons_zero, List.getElem?_cons_succ, Option.some.injEq] at b0 b1 b2
    subst b0; subst b1; subst b2
    simp only [List.map_cons, List.map_nil, List.cons.injEq, DataW.lit.injEq, Lit.int.injEq, true_and, and_true] at hxs
    obtain ⟨rfl, rfl, rfl⟩ := hxs
    obtain ⟨l⟩ := cs
    match l, hl with
    | [c0, c1, c2], _ =>
      simp only [fld, cells3, List.drop_zero, List.drop_succ_cons, List.take_succ_cons, List.take_zero, List.cons.injEq, and_true] at a0 a1 a2
      subst a0; subst a1; subst a2
      exact hv
theorem var_heap {W : World} {n : String} {g : Nat} {cs : Array Value} (hg : Tryz.prog.globalNamed n = some g) (hv : W.var? Tryz.prog n = some cs) {z : Array Value} {t : TypeId} (hlt : g < Tryz.prog.globals.size) (hrow : (((begin Tryz.prog (fun _ _ => 0) default).world).heap[g]?).bind Obj.row? = some (z, t)) (hsh : W.ShapedOpen Tryz.prog) : W.heap[g]? = some (.cells cs t (0, 0)) := by
  obtain ⟨c, h1, _, _⟩ := hsh.1 g z t hlt hrow
  simp only [World.var?, hg, Option.bind_some, h1] at hv
  simp only [Option.some.injEq] at hv
  subst hv
  exact h1
theorem rows_ok : (((begin Tryz.prog (fun _ _ => 0) default).world).heap[0]?).bind Obj.row? = some (#[.int .i64 0, .int .i64 0, .int .i64 0], 51) ∧ (((begin Tryz.prog (fun _ _ => 0) default).world).heap[1]?).bind Obj.row? = some (#[.int .u8 0, .int .u8 0, .int .u8 0, .int .u8 0, .int .u8 0, .int .u8 0, .int .u8 0, .int .u8 0], 148) := ⟨by kernel_rfl, by kernel_rfl⟩
theorem globals2 : Tryz.prog.globals.size = 2 := by kernel_rfl
/-- Where a law begins. -/
def ren0 : Ren := fun id => match id with
  | 0 => some (0, 3)
  | 1 => some (1, 8)
  | _ => none
theorem rel0 {W : World} (hL : laidMetH Tryz.prog laidL W) (hsh : W.ShapedOpen Tryz.prog) : Rel ⟨W, ren0, 2⟩ (fun _ => False) 2 ro0 ren0 (startHp 2 1000000) W := by
  have h0 := var_heap gIdle (idle_cells hL) (by rw [globals2]; decide) rows_ok.1 hsh
  have h1 := var_heap gMasks (masks_cells hL) (by rw [globals2]; decide) rows_ok.2 hsh
  have at0 : ∀ id b, Hp.at ro0 (startHp 2 1000000) id = some b → (id = 0 ∧ b = .cells idleC) ∨ (id = 1 ∧ b = .cells maskC) := fun id b h => by
    have h : ro0 id = some b := h
    unfold ro0 at h
    split at h
    · rename_i e
      injection h with h
      exact .inl ⟨Nat.eq_of_beq_eq_true e, h.symm⟩
    · split at h
      · rename_i e
        injection h with h
        exact .inr ⟨Nat.eq_of_beq_eq_true e, h.symm⟩
      · cases h
  have lit : ∀ (ρ : Ren) (k : IntKind) (n : Int), VR ρ (.int k (I.lit n)) (.int k n) := fun ρ k n => ⟨n, rfl, IR.lit n⟩
  refine ⟨fun id b h => ?_, fun i j b c B t t' hi hj e1 e2 => ?_, fun id b h => (by cases h), fun id i1 i2 => ?_, fun _ _ _ => rfl, Nat.le_refl _, rfl, rfl, rfl, fun g hg => ?_, fun id x hx => .inl hx, Nat.le_refl _⟩
  · rcases at0 id b h with ⟨rfl, rfl⟩ | ⟨rfl, rfl⟩
    · exact ⟨0, 3, _, rfl, h0, ⟨_, _, _, rfl, ⟨_, _, rfl, lit _ _ _, _, _, rfl, lit _ _ _, _, _, rfl, lit _ _ _, rfl⟩, rfl, unfrozen_zero _⟩, .inl rfl⟩
    · exact ⟨1, 8, _, rfl, h1, ⟨_, _, _, rfl, ⟨_, _, rfl, lit _ _ _, _, _, rfl, lit _ _ _, _, _, rfl, lit _ _ _, _, _, rfl, lit _ _ _, _, _, rfl, lit _ _ _, _, _, rfl, lit _ _ _, _, _, rfl, lit _ _ _, _, _, rfl, lit _ _ _, rfl⟩, rfl, unfrozen_zero _⟩, .inl rfl⟩
  · refine .inl ?_
    rcases at0 i b hi with ⟨rfl, rfl⟩ | ⟨rfl, rfl⟩ <;> rcases at0 j c hj with ⟨rfl, rfl⟩ | ⟨rfl, rfl⟩
    · rfl
    · cases e1; cases e2
    · cases e1; cases e2
    · rfl
  · have i1 : 2 ≤ id := i1
    match id, i1 with
    | id + 2, _ => rfl
  · match g, hg with
    | 0, _ => exact ⟨3, rfl⟩
    | 1, _ => exact ⟨8, rfl⟩
/-! ### arguments -/
/-- Registers as they come. -/
def regsV (r : Rg) : Value := .agg #[.int .i64 r.A, .int .i64 r.F, .int .i64 r.B, .int .i64 r.C, .int .i64 r.D, .int .i64 r.E, .int .i64 r.H, .int .i64 r.L, .int .i64 r.SP, .int .i64 r.PC, .bool r.IME, .int .i64 r.St]
def In64 (n : Int) : Prop := -9223372036854775808 ≤ n ∧ n ≤ 9223372036854775807
structure InW (r : Rg) : Prop where
  hA : In64 r.A
  hF : In64 r.F
  hB : In64 r.B
  hC : In64 r.C
  hD : In64 r.D
  hE : In64 r.E
  hH : In64 r.H
  hL : In64 r.L
  hSP : In64 r.SP
  hPC : In64 r.PC
  hSt : In64 r.St
def regsA (r : Rg) : V := .agg [i64a r.A, i64a r.F, i64a r.B, i64a r.C, i64a r.D, i64a r.E, i64a r.H, i64a r.L, i64a r.SP, i64a r.PC, .sbool r.IME, i64a r.St]
theorem i64a_VR {ρ : Ren} {n : Int} (h : In64 n) : VR ρ (i64a n) (.int .i64 n) := ⟨n, rfl, rfl, h.1, h.2⟩
theorem regsA_VR {ρ : Ren} {r : Rg} (h : InW r) : VR ρ (regsA r) (regsV r) :=
  ⟨_, rfl, _, _, rfl, i64a_VR h.hA, _, _, rfl, i64a_VR h.hF, _, _, rfl, i64a_VR h.hB, _, _, rfl, i64a_VR h.hC, _, _, rfl, i64a_VR h.hD, _, _, rfl, i64a_VR h.hE, _, _, rfl, i64a_VR h.hH, _, _, rfl, i64a_VR h.hL, _, _, rfl, i64a_VR h.hSP, _, _, rfl, i64a_VR h.hPC, _, _, rfl, rfl, _, _, rfl, i64a_VR h.hSt, rfl⟩
section
variable {H : Type} {enc : TypeId × Value → H} {w w' : World} {base base' : Nat} {spare spare' : Nat → Bool} {held held' : Bool}
theorem trod_int_any {t : TypeId} {k : IntKind} (ht : Tryz.prog.underlying t = some (.int k)) {n : Nat} {cs : List Value} {x : DataW H × List MemPlace} (h : DataW.trod enc Tryz.prog w base spare held n t cs = some x) : DataW.trod enc Tryz.prog w' base' spare' held' n t cs = some x := by
  cases n with
  | zero => simp [DataW.trod] at h
  | succ n =>
    obtain ⟨m, rfl, rfl, hw⟩ := DataW.trod_int ht h
    simp only [DataW.trod, ht, hw, and_self, if_true]
theorem trod_bool_any {t : TypeId} (ht : Tryz.prog.underlying t = some .bool) {n : Nat} {cs : List Value} {x : DataW H × List MemPlace} (h : DataW.trod enc Tryz.prog w base spare held n t cs = some x) : DataW.trod enc Tryz.prog w' base' spare' held' n t cs = some x := by
  cases n with
  | zero => simp [DataW.trod] at h
  | succ n =>
    obtain ⟨m, rfl, rfl⟩ := DataW.trod_bool ht h
    simp only [DataW.trod, ht]
theorem open_regs {r : Reach} {b0 : Nat} {v : Value} {d : DataW H} {p : List MemPlace} (hv : Value.okWide Tryz.prog w r b0 23 v) (h : DataW.Trod enc Tryz.prog w base spare held 23 v d p) :
    ∃ g : Rg, v = regsV g ∧ InW g ∧ p = [] ∧ ∀ (w' : World) (base' : Nat) (spare' : Nat → Bool) (held' : Bool), DataW.Trod enc Tryz.prog w' base' spare' held' 23 v d p := by
  obtain ⟨cs, rfl, hsz⟩ := okWide_struct und23 hv
  rw [cells23] at hsz
  obtain ⟨fuel, hf⟩ := h
  obtain ⟨xs, n, hfu, hx, hl, hlen, hfi⟩ := DataW.trod_struct und23 hf
  have one : ∀ (i : Nat) (f : Field), regFs[i]? = some f → ∃ c y, cs.toList[i]? = some c ∧ xs[i]? = some y ∧ DataW.trod enc Tryz.prog w base spare held n f.type [c] = some y := fun i f hi => by
    obtain ⟨o1, o2⟩ := hone_of hone23 i f hi
    have h1 := hfi i f hi
    rw [o1, o2] at h1
    have hi' : i < xs.length := by rw [hlen]; exact (Array.getElem?_eq_some_iff.1 hi).1
    have hi2 : i < cs.toList.length := by
      have : regFs.size = 12 := rfl
      rw [hlen, this] at hi'
      simp; omega
    rw [List.getElem?_eq_getElem hi'] at h1
    refine ⟨cs.toList[i], xs[i], List.getElem?_eq_getElem hi2, List.getElem?_eq_getElem hi', ?_⟩
    have e : ((Value.agg cs).cells.toList.drop i).take 1 = [cs.toList[i]] := by
      show (cs.toList.drop i).take 1 = _
      rw [List.drop_eq_getElem_cons hi2]; rfl
    rw [← e]; exact h1
  have int1 : ∀ (i : Nat) (f : Field), regFs[i]? = some f → f.type = 3 → ∃ m, cs.toList[i]? = some (.int .i64 m) ∧ (∃ y, xs[i]? = some y ∧ y.2 = []) ∧ In64 m := fun i f hi ht => by
    obtain ⟨c, y, h1, h2, h3⟩ := one i f hi
    rw [ht] at h3
    obtain ⟨m, e1, e2, e3⟩ := DataW.trod_int und3 h3
    simp only [List.cons.injEq, and_true] at e1
    subst e1
    refine ⟨m, h1, ⟨y, h2, by rw [e2]⟩, ?_⟩
    have e4 : IntKind.i64.min ≤ m ∧ m ≤ IntKind.i64.max := by simpa [Lit.wf] using e3
    exact ⟨e4.1, e4.2⟩
  have bool1 : ∃ b, cs.toList[10]? = some (.bool b) ∧ (∃ y, xs[10]? = some y ∧ y.2 = []) := by
    obtain ⟨c, y, h1, h2, h3⟩ := one 10 (fld "IME" 4 10 80) rfl
    obtain ⟨b, e1, e2⟩ := DataW.trod_bool Tryz.underlying4 h3
    simp only [List.cons.injEq, and_true] at e1
    subst e1
    exact ⟨b, h1, ⟨y, h2, by rw [e2]⟩⟩
  obtain ⟨m0, a0, ⟨y0, z0, u0⟩, b0⟩ := int1 0 _ rfl rfl
  obtain ⟨m1, a1, ⟨y1, z1, u1⟩, b1⟩ := int1 1 _ rfl rfl
  obtain ⟨m2, a2, ⟨y2, z2, u2⟩, b2⟩ := int1 2 _ rfl rfl
  obtain ⟨m3, a3, ⟨y3, z3, u3⟩, b3⟩ := int1 3 _ rfl rfl
  obtain ⟨m4, a4, ⟨y4, z4, u4⟩, b4⟩ := int1 4 _ rfl rfl
  obtain ⟨m5, a5, ⟨y5, z5, u5⟩, b5⟩ := int1 5 _ rfl rfl
  obtain ⟨m6, a6, ⟨y6, z6, u6⟩, b6⟩ := int1 6 _ rfl rfl
  obtain ⟨m7, a7, ⟨y7, z7, u7⟩, b7⟩ := int1 7 _ rfl rfl
  obtain ⟨m8, a8, ⟨y8, z8, u8⟩, b8⟩ := int1 8 _ rfl rfl
  obtain ⟨m9, a9, ⟨y9, z9, u9⟩, b9⟩ := int1 9 _ rfl rfl
  obtain ⟨m10, a10, ⟨y10, z10, u10⟩⟩ := bool1
  obtain ⟨m11, a11, ⟨y11, z11, u11⟩, b11⟩ := int1 11 _ rfl rfl
  have hxl : xs.length = 12 := hlen
  have hxs : xs = [y0, y1, y2, y3, y4, y5, y6, y7, y8, y9, y10, y11] := by
    apply List.ext_getElem?
    intro i
    match i with
    | 0 => simpa using z0
    | 1 => simpa using z1
    | 2 => simpa using z2
    | 3 => simpa using z3
    | 4 => simpa using z4
    | 5 => simpa using z5
    | 6 => simpa using z6
    | 7 => simpa using z7
    | 8 => simpa using z8
    | 9 => simpa using z9
    | 10 => simpa using z10
    | 11 => simpa using z11
    | i + 12 => rw [List.getElem?_eq_none (by omega), List.getElem?_eq_none (by simp)]
  have hcs : cs = #[.int .i64 m0, .int .i64 m1, .int .i64 m2, .int .i64 m3, .int .i64 m4, .int .i64 m5, .int .i64 m6, .int .i64 m7, .int .i64 m8, .int .i64 m9, .bool m10, .int .i64 m11] := by
    apply Array.ext_getElem?
    intro i
    rw [← Array.getElem?_toList]
    match i with
    | 0 => simpa using a0
    | 1 => simpa using a1
    | 2 => simpa using a2
    | 3 => simpa using a3
    | 4 => simpa using a4
    | 5 => simpa using a5
    | 6 => simpa using a6
    | 7 => simpa using a7
    | 8 => simpa using a8
    | 9 => simpa using a9
    | 10 => simpa using a10
    | 11 => simpa using a11
    | i + 12 => rw [List.getElem?_eq_none (by simp; omega)]; rfl
  refine ⟨⟨m0, m1, m2, m3, m4, m5, m6, m7, m8, m9, m10, m11⟩, by rw [hcs]; rfl, ⟨b0, b1, b2, b3, b4, b5, b6, b7, b8, b9, b11⟩, ?_, fun w' base' spare' held' => ⟨n + 1, ?_⟩⟩
  rotate_left
  · have G : ∀ (i : Nat) (f : Field), regFs[i]? = some f → (f.type = 3 ∨ f.type = 4) → DataW.trod enc Tryz.prog w' base' spare' held' n f.type (((Value.agg cs).cells.toList.drop f.offset).take (Tryz.prog.cellsOf f.type)) = xs[i]? := fun i f hi ht => by
      have h1 := hfi i f hi
      have hi' : i < xs.length := by rw [hlen]; exact (Array.getElem?_eq_some_iff.1 hi).1
      rw [List.getElem?_eq_getElem hi'] at h1 ⊢
      rcases ht with ht | ht
      · exact trod_int_any (by rw [ht]; exact und3) h1
      · exact trod_bool_any (by rw [ht]; exact Tryz.underlying4) h1
    rw [hx]
    refine trod_struct_mk und23 hl ?_
    have g := fun (i : Nat) (f : Field) hi ht => G i f hi ht
    rw [hxs] at g
    simp only [regFs, List.mapM_cons, List.mapM_nil]
    rw [g 0 (fld "A" 3 0 0) rfl (.inl rfl), g 1 (fld "F" 3 1 8) rfl (.inl rfl), g 2 (fld "B" 3 2 16) rfl (.inl rfl), g 3 (fld "C" 3 3 24) rfl (.inl rfl), g 4 (fld "D" 3 4 32) rfl (.inl rfl), g 5 (fld "E" 3 5 40) rfl (.inl rfl), g 6 (fld "H" 3 6 48) rfl (.inl rfl), g 7 (fld "L" 3 7 56) rfl (.inl rfl), g 8 (fld "SP" 3 8 64) rfl (.inl rfl), g 9 (fld "PC" 3 9 72) rfl (.inl rfl), g 10 (fld "IME" 4 10 80) rfl (.inr rfl), g 11 (fld "State" 3 11 88) rfl (.inl rfl)]
    simp only [hxs, List.getElem?_cons_zero, List.getElem?_cons_succ]
    rfl
  have := congrArg Prod.snd hx
  simp only at this
  rw [this, hxs]
  simp only [List.flatMap_cons, List.flatMap_nil, u0, u1, u2, u3, u4, u5, u6, u7, u8, u9, u10, u11, List.append_nil]
end
end Go.Proofs.YtmlfmkebljdoiaaGreatDoor
