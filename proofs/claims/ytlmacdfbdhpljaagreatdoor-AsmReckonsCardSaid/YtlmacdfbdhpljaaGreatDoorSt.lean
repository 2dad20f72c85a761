/- Own text: numbers, written. -/
import Derived.Test.YtlmacdfbdhpljaaGreatDoorSq
import Derived.Test.YtlmacdfbdhpljaaGreatDoorSu
import Derived.Lib.ItoaLen
namespace Go.Proofs.YtlmacdfbdhpljaaGreatDoor
open Go.Ev Go.Ev.Tr Go.Proofs
set_option maxRecDepth 1000000
/-- The powers of ten, as they are laid. -/
def pow10C : List V := [1, 10, 100, 1000, 10000, 100000, 1000000, 10000000, 100000000, 1000000000, 10000000000, 100000000000, 1000000000000, 10000000000000, 100000000000000, 1000000000000000, 10000000000000000, 100000000000000000, 1000000000000000000, 10000000000000000000].map fun n => .int .u64 (I.lit n)
def ro10 : RO := fun id => match Nat.beq id 0 with
  | true => some (.cells pow10C)
  | false => none
def isPow (ro : RO) : Bool := match ro 0 with
  | some (.cells cs) => vsEq cs pow10C
  | _ => false
theorem isPow_sub {ro : RO} (h : isPow ro = true) : ∀ id b, ro10 id = some b → ro id = some b := by
  intro id b hb
  unfold ro10 at hb
  split at hb <;> try contradiction
  rename_i hid
  have hid := Nat.eq_of_beq_eq_true hid
  subst hid
  injection hb with hb; subst hb
  unfold isPow at h
  split at h <;> try contradiction
  rename_i cs hcs
  rw [hcs, vsEq_sound _ _ h]
theorem gPow : Tryz.prog.globalNamed "internal/strconv.uint64pow10" = some 0 := by kernel_rfl
theorem pow10L : pow10C = Lib.pow10Tab.map fun n => .int .u64 (I.lit n) := by
  unfold pow10C Lib.pow10Tab
  rfl
theorem lits_eq {ρ : Ren} {k : IntKind} : ∀ {zs : List Int} {l : List Value}, VRs ρ (zs.map fun n => V.int k (I.lit n)) l → l = zs.map fun z => Value.int k z
  | [], _, h => h
  | z :: zs, _, ⟨x, xs, h1, ⟨m, h2, h3⟩, h4⟩ => by
    subst h1; subst h2
    have := h3.1
    simp only [I.lit] at this
    rw [lits_eq h4, this]; rfl
theorem tab_of {w0 : Base} {F : Nat → Prop} {ρ : Ren} {hp : Hp} {w : World} {ro : RO} (hr : Rel w0 F 6 ro ρ hp w) (h : isPow ro = true) : Lib.TabIs Tryz.prog w "internal/strconv.uint64pow10" .u64 Lib.pow10Tab := by
  have h0 : ro 0 = some (.cells pow10C) := isPow_sub h 0 _ rfl
  obtain ⟨B, tot, o, e1, e2, e3, _⟩ := hr.blk 0 _ (hr.at_ro h0)
  obtain ⟨t, ht⟩ := hr.glob 0 (by decide)
  rw [ht] at e1
  obtain ⟨rfl, rfl⟩ := Prod.mk.inj (Option.some.inj e1)
  obtain ⟨l, ty, fz, rfl, h2, _⟩ := e3
  rw [pow10L] at h2
  have := lits_eq h2
  subst this
  show World.var? Tryz.prog w _ = _
  simp only [World.var?, gPow, Option.bind_some, e2]
/-- After a run that only adds to memory what was known is known. -/
theorem rel_grow {w0 : Base} {F : Nat → Prop} {ρ : Ren} {hp : Hp} {w : World} {ro : RO} (hr : Rel w0 F 6 ro ρ hp w) (k : Nat) (os : Array Obj) : Rel w0 F 6 ro ρ hp (Sort.grow (w.drewN k) os) := by
  have key : ∀ B, B < w.heap.size → (w.heap ++ os)[B]? = w.heap[B]? := fun B h => Array.getElem?_append_left h
  have ht := hr.frame
  refine ⟨fun id b h => ?_, hr.inj, hr.sep, hr.fresh, fun B hB hF => ?_, ?_, hr.tape, hr.os, hr.output, hr.glob, hr.ren, hr.le0, fun B l hl => ?_, hr.fz.sep, hr.fz.new⟩
  · obtain ⟨B, t, o, h1, h2, h3, h4⟩ := hr.blk id b h
    refine ⟨B, t, o, h1, ?_, h3, h4⟩
    show (w.heap ++ os)[B]? = _
    rw [key B (lt_of_heap h2)]; exact h2
  · show (w.heap ++ os)[B]? = _
    rw [key B (Nat.lt_of_lt_of_le hB hr.size)]; exact hr.frame B hB hF
  · show w0.heap.size ≤ (w.heap ++ os).size
    rw [Array.size_append]; have := hr.size; omega
  · obtain ⟨t, fz, h1⟩ := hr.fz.keep B l hl
    refine ⟨t, fz, ?_⟩
    show (w.heap ++ os)[B]? = _
    rw [key B (lt_of_heap h1)]; exact h1
theorem itoaFn : env0.fn 124 = some (fnOf 124) := by kernel_rfl
def itoaSum : Summ := fun ro hp args => match args with
  | [.int k i] => match isPow ro && (decide (k = .i64) && ile (-9223372036854775808) i.lo && ile i.hi 9223372036854775807) with
    | true => .ret (.ret (.ssym (Lib.itoa i.n)), hp)
    | false => .fail
  | _ => .fail
theorem itoa_at : SumAt 124 itoaSum := by
  intro ro hp args r hr w0 F ρ w l hrel hl
  unfold itoaSum at hr
  split at hr <;> try (cases hr; done)
  rename_i k i
  split at hr <;> try (cases hr; done)
  rename_i hc
  injection hr with hr; subst hr
  rw [Bool.and_eq_true] at hc
  obtain ⟨hpow, hc⟩ := hc
  simp only [Bool.and_eq_true, decide_eq_true_eq, ile_iff] at hc
  obtain ⟨⟨rfl, h1⟩, h2⟩ := hc
  obtain ⟨x, xs, rfl, ⟨m, rfl, hm⟩, hn⟩ := hl
  have hxs : xs = [] := hn
  subst hxs
  have hm1 := hm.1
  have hm2 := hm.2
  refine ⟨callsAt 124 _ itoaFn _, (Tryz.strconv_Itoa m (by omega) (by omega) w (tab_of hrel hpow)).mono fun e w' ⟨he, q, os, hw⟩ => ?_⟩
  subst hw
  refine ⟨ρ, Ren.le.refl _, rel_grow hrel q os, _, he, ?_⟩
  rw [← hm1]
  refine ⟨rfl, ?_⟩
  have := Lib.itoa_length_le m (by omega) (by omega)
  omega
end Go.Proofs.YtlmacdfbdhpljaaGreatDoor
