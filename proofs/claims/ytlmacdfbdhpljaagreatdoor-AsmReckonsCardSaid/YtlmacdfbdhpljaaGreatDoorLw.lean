/- Own text: from the statements' premises to the evaluator's, and back. -/
import Derived.Test.YtlmacdfbdhpljaaGreatDoorPk
import Derived.Test.YtlmacdfbdhpljaaGreatDoorCards
import Derived.Test.YtlmacdfbdhpljaaGreatDoorTie
import Derived.WalkKit
import Derived.ProofKit
import Derived.OpenShut
import Derived.Deep.DeepHandedRow
import Derived.Lib.LaidTab
import Derived.LaidSub
import Derived.Lay
namespace Go.Proofs.YtlmacdfbdhpljaaGreatDoor
open Go.Ev Go.Ev.Tr Go.Proofs Go.ChangeShapes Go.WideShapes Go.ChangeAt Go.RowKit
set_option maxRecDepth 1000000
def laidL : List (String × DataW Unit) := [("math/bits.deBruijn32tab", Rows.laid_math_bits_deBruijn32tab), ("math/bits.deBruijn64tab", Rows.laid_math_bits_deBruijn64tab), ("internal/strconv.uint64pow10", Rows.laid_internal_strconv_uint64pow10), ("unicode/utf8.acceptRanges", Rows.laid_unicode_utf8_acceptRanges), ("unicode/utf8.first", Rows.laid_unicode_utf8_first)]
theorem tPow : (Tryz.prog.globals[0]?).map (·.type) = some 278 := by kernel_rfl
theorem und278 : Tryz.prog.underlying 278 = some (.array 20 248) := by kernel_rfl
theorem und248 : Tryz.prog.underlying 248 = some (.int .u64) := by kernel_rfl
theorem cells248 : Tryz.prog.cellsOf 248 = 1 := by kernel_rfl
theorem cells278 : Tryz.prog.cellsOf 278 = 20 := by kernel_rfl
theorem filt : (laidL.filter fun x => x.1 == "internal/strconv.uint64pow10") = [("internal/strconv.uint64pow10", Lib.tabData .u64 Lib.pow10Tab)] := by
  have e : (("math/bits.deBruijn32tab" : String) == "internal/strconv.uint64pow10") = false := by decide
  have e2 : (("math/bits.deBruijn64tab" : String) == "internal/strconv.uint64pow10") = false := by decide
  have e3 : (("unicode/utf8.acceptRanges" : String) == "internal/strconv.uint64pow10") = false := by decide
  have e4 : (("unicode/utf8.first" : String) == "internal/strconv.uint64pow10") = false := by decide
  have e5 : (("internal/strconv.uint64pow10" : String) == "internal/strconv.uint64pow10") = true := by decide
  simp only [laidL, List.filter_cons, e, e2, e3, e4, e5, List.filter_nil]
  rfl
theorem pow_tab {W : World} (h : laidMetH Tryz.prog laidL W) : Lib.TabIs Tryz.prog W "internal/strconv.uint64pow10" .u64 Lib.pow10Tab := by
  have h1 := (laidMetH_iff.1 (h.filter fun x => x.1 == "internal/strconv.uint64pow10")).1
  rw [filt] at h1
  exact Lib.tabIs_of_head (rest := []) gPow tPow und278 und248 cells248 cells278 h1
theorem row0 : (((begin Tryz.prog (fun _ _ => 0) default).world).heap[0]?).bind Obj.row? = some ((List.replicate 20 (Value.int .u64 0)).toArray, 278) := by kernel_rfl
theorem globals6 : Tryz.prog.globals.size = 6 := by kernel_rfl
theorem pow_heap {W : World} (h : laidMetH Tryz.prog laidL W) (hsh : W.ShapedOpen Tryz.prog) : W.heap[0]? = some (.cells (Lib.pow10Tab.map fun z => Value.int .u64 z).toArray 278 (0, 0)) := by
  obtain ⟨c, h1, _, _⟩ := hsh.1 0 _ 278 (by rw [globals6]; decide) row0
  have hv := pow_tab h
  unfold Lib.TabIs at hv
  simp only [World.var?, gPow, Option.bind_some, h1] at hv
  simp only [Option.some.injEq] at hv
  subst hv
  exact h1
/-- Where a law begins. -/
def ren0 : Ren := ⟨fun id => if id < 6 then some (id, 20) else none, fun _ => none⟩
theorem rel0 {W : World} (hL : laidMetH Tryz.prog laidL W) (hsh : W.ShapedOpen Tryz.prog) : Rel ⟨W, ren0, 6⟩ (fun _ => False) 6 ro10 ren0 (startHp 6 1000000) W := by
  have h0 := pow_heap hL hsh
  have at0 : ∀ id b, Hp.at ro10 (startHp 6 1000000) id = some b → id = 0 ∧ b = .cells pow10C := fun id b h => by
    have h : ro10 id = some b := h
    unfold ro10 at h
    split at h
    · rename_i e
      injection h with h
      exact ⟨Nat.eq_of_beq_eq_true e, h.symm⟩
    · cases h
  refine ⟨fun id b h => ?_, fun i j b c B t t' hi hj e1 e2 => ?_, fun id b h => (by cases h), fun id i1 i2 => ?_, fun _ _ _ => rfl, Nat.le_refl _, rfl, rfl, rfl, fun g hg => ⟨20, ?_⟩, fun id x hx => .inl hx, Nat.le_refl _, fun B l h => (by cases h), fun id b B t h => (by cases h), fun B l h => (by cases h)⟩
  · obtain ⟨rfl, rfl⟩ := at0 id b h
    refine ⟨0, 20, _, rfl, h0, ⟨_, _, _, rfl, ?_, by rw [List.length_map]; exact Lib.pow10Tab_length, ?_⟩, .inl rfl⟩
    · rw [pow10L]
      have : ∀ zs : List Int, VRs ren0 (zs.map fun n => V.int .u64 (I.lit n)) (zs.map fun z => Value.int .u64 z) := by
        intro zs
        induction zs with
        | nil => rfl
        | cons z zs ih => exact ⟨_, _, rfl, ⟨z, rfl, IR.lit z⟩, ih⟩
      exact this _
    · intro i _
      simp
  · obtain ⟨rfl, _⟩ := at0 i b hi
    obtain ⟨rfl, _⟩ := at0 j c hj
    exact .inl rfl
  · have i1 : 6 ≤ id := i1
    show (if id < 6 then some (id, 20) else none) = none
    rw [if_neg (by omega)]
  · show (if g < 6 then some (g, 20) else none) = _
    rw [if_pos hg]
theorem lawEnd {sm : Nat → Option Summ} (hsm : ∀ f s, sm f = some s → SumAt f s) {f : Nat} {l : List Value} {W : World} {av : List V} (hrun : trueB (callA sm ro10 f av (startHp 6 1000000)).run = true)
    (hL : laidMetH Tryz.prog laidL W) (hsh : W.ShapedOpen Tryz.prog) (hl : VRs ren0 av l) : Calls Tryz.prog f ⟨l⟩ W fun e W' => e = .returned (.bool true) ∧ W.keptBut W' (fun _ => False) := by
  obtain ⟨v, hp', hrun, _, hv⟩ := trueB_some hrun
  obtain ⟨_, g2⟩ := callAOK hsm _ _ _ _ _ hrun _ _ _ W l (rel0 hL hsh) hl
  refine g2.mono fun e W' ⟨ρ', _, hrel, x, hx, hvr⟩ => ?_
  have := hv _ _ hvr
  subst this
  refine ⟨hx, hrel.os, hrel.output, fun i hi => ?_⟩
  have := hrel.frame i hi (fun h => h)
  rw [this]
  cases hw : W.heap[i]? with
  | none => rfl
  | some o => cases o <;> first | rfl | exact ⟨rfl, rfl, rfl, fun _ _ => rfl⟩ | exact .inr ⟨rfl, rfl⟩
def laidS : List (String × DataW Unit) := [("unicode/utf8.acceptRanges", Rows.laid_unicode_utf8_acceptRanges), ("unicode/utf8.first", Rows.laid_unicode_utf8_first)]
def renN : Ren := ⟨fun id => if id < 6 then ren0 id else none, fun _ => none⟩
/-- A law that reads no variable. -/
theorem lawEndN {sm : Nat → Option Summ} (hsm : ∀ f s, sm f = some s → SumAt f s) {f : Nat} {l : List Value} {W : World} {av : List V} (hrun : trueB (callA sm noRO f av (startHp 6 1000000)).run = true)
    (hl : VRs renN av l) : Calls Tryz.prog f ⟨l⟩ W fun e W' => e = .returned (.bool true) ∧ W.keptBut W' (fun _ => False) := by
  obtain ⟨v, hp', hrun, _, hv⟩ := trueB_some hrun
  have hg : GR ren0 6 := fun g hg => ⟨20, by show (if g < 6 then some (g, 20) else none) = _; rw [if_pos hg]⟩
  obtain ⟨_, g2⟩ := callAOK hsm _ _ _ _ _ hrun _ _ _ W l (Rel.start hg 1000000) hl
  refine g2.mono fun e W' ⟨ρ', _, hrel, x, hx, hvr⟩ => ?_
  have := hv _ _ hvr
  subst this
  refine ⟨hx, hrel.os, hrel.output, fun i hi => ?_⟩
  have := hrel.frame i hi (fun h => h)
  rw [this]
  cases hw : W.heap[i]? with
  | none => rfl
  | some o => cases o <;> first | rfl | exact ⟨rfl, rfl, rfl, fun _ _ => rfl⟩ | exact .inr ⟨rfl, rfl⟩
theorem int_VR {ρ : Ren} {k : IntKind} {n lo hi : Int} (h1 : lo ≤ n) (h2 : n ≤ hi) : VR ρ (.int k ⟨n, lo, hi⟩) (.int k n) := ⟨n, rfl, rfl, h1, h2⟩
theorem lit_VR {ρ : Ren} {k : IntKind} {n : Int} : VR ρ (.int k (I.lit n)) (.int k n) := ⟨n, rfl, IR.lit n⟩
def In64 (n : Int) : Prop := -9223372036854775808 ≤ n ∧ n ≤ 9223372036854775807
def InU8 (n : Int) : Prop := 0 ≤ n ∧ n ≤ 255
theorem in64_of {n : Int} (h : (Lit.int .i64 n).wf = true) : In64 n := by
  have e : IntKind.i64.min ≤ n ∧ n ≤ IntKind.i64.max := by simpa [Lit.wf] using h
  exact ⟨e.1, e.2⟩
theorem inU8_of {n : Int} (h : (Lit.int .u8 n).wf = true) : InU8 n := by
  have e : IntKind.u8.min ≤ n ∧ n ≤ IntKind.u8.max := by simpa [Lit.wf] using h
  exact ⟨e.1, e.2⟩
theorem own : ownKnob Tryz.prog.godebug = none := by kernel_rfl
end Go.Proofs.YtlmacdfbdhpljaaGreatDoor
