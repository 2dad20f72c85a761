/- Own text: where a register stands: a summary. -/
import Derived.Test.YtmlfmkebljdoiaaGreatDoorCr
namespace Go.Proofs.YtmlfmkebljdoiaaGreatDoor
open Go.Ev Go.Ev.Tr Go.Proofs
set_option maxRecDepth 1000000
/-- A run that knows of no memory, but of one place. -/
theorem Rel.startP {w0 : Base} {F : Nat → Prop} {ro : RO} {ρ : Ren} {hp : Hp} {w : World} (hr : Rel w0 F 2 ro ρ hp w) (b L : Nat) : Rel ⟨w, renL ρ 2 [b], 3⟩ (fun _ => False) 2 noRO (renL ρ 2 [b]) ⟨.lf, 3, L⟩ w := by
  refine ⟨fun id b h => (by cases h), fun i j b c B t t' h _ _ _ => (by cases h), fun id b h => (by cases h), fun id h1 h2 => ?_, fun _ _ _ => rfl, Nat.le_refl _, rfl, rfl, rfl, fun g hlt => ?_, fun id x h => .inl h, Nat.le_refl _⟩
  · have h1 : 3 ≤ id := h1
    unfold renL
    rw [if_neg (by omega), List.getElem?_eq_none (by simp; omega)]
  · rw [renL_lt hlt]; exact hr.glob g hlt
noncomputable def regRun (n : Nat) : T (AEnd × Hp) := call0 noRO 141 [.ptr 2 (I.lit 0), .int .i64 (I.lit n)] ⟨.lf, 3, 1000000⟩
def regOff (n : Nat) : Option Nat := [some 14, some 15, some 16, some 17, some 18, some 19, none, some 12].getD n none
noncomputable def regIs (n : Nat) : Bool := match (regRun n).run with
  | some r => match r.1 with
    | .ret (.ptr 2 o) => match regOff n with
      | some k => ieq o.lo k && ieq o.hi k
      | none => false
    | .ret .nilp => match regOff n with
      | some _ => false
      | none => true
    | _ => false
  | none => false
theorem regAll : allN regIs 8 0 = true := by kernel_rfl
def regSum : Summ := fun _ hp args => match args with
  | [.ptr b o, .int k i] => match isZero o with
    | true => match litI i with
      | some n => match Nat.ble (n + 1) 8 && decide (k = .i64) with
        | true => match regOff n with
          | some j => .ret (.ret (.ptr b (I.lit j)), hp)
          | none => .ret (.ret .nilp, hp)
        | false => .fail
      | none => .fail
    | false => .fail
  | _ => .fail
theorem regSum_at : SumAt 141 regSum := by
  intro ro hp args r hrun w0 F ρ w l hr hl
  unfold regSum at hrun
  split at hrun <;> try (cases hrun; done)
  rename_i b o k i
  split at hrun <;> try (cases hrun; done)
  rename_i hz
  split at hrun <;> try (cases hrun; done)
  rename_i n hn
  split at hrun <;> try (cases hrun; done)
  rename_i hlt
  simp only [Bool.and_eq_true, decide_eq_true_eq] at hlt
  obtain ⟨hlt, rfl⟩ := hlt
  have hlt := Nat.le_of_ble_eq_true hlt
  simp only [isZero, Bool.and_eq_true, ieq_iff] at hz
  obtain ⟨px, l', rfl, ⟨B, tot, m, q1, rfl, q3⟩, nx, l'', rfl, ⟨nv, rfl, hnv⟩, hnil⟩ := hl
  simp only [VRs] at hnil; subst hnil
  have en := litI_int hn hnv
  subst en
  have hm : m = 0 := by have := q3.2; omega
  subst hm
  have hreg := allN_get regAll n (by omega)
  rw [Nat.zero_add] at hreg
  unfold regIs at hreg
  split at hreg <;> try (cases hreg; done)
  rename_i q hq
  obtain ⟨e, hp'⟩ := q
  have hb : renL ρ 2 [b] 2 = some (B, tot) := by
    rw [show (2 : Nat) = 2 + 0 by rfl, renL_own (i := 0) (b := b) rfl]; exact q1
  obtain ⟨g1, g2⟩ := call0OK _ _ _ _ _ hq _ _ _ w [.pointer (some ⟨B, 0, none⟩), .int .i64 n] (Rel.startP hr b 1000000) ⟨_, _, rfl, ⟨B, tot, 0, hb, rfl, IR.lit 0⟩, _, _, rfl, ⟨_, rfl, IR.lit _⟩, rfl⟩
  refine ⟨g1, g2.mono fun en w' ⟨ρ', k1, k2, k3⟩ => ?_⟩
  have hb' := k1 2 _ hb
  split at hreg <;> try (cases hreg; done)
  · rename_i oo he
    simp only at he; subst he
    split at hreg <;> try (cases hreg; done)
    rename_i j hj
    simp only [Bool.and_eq_true, ieq_iff] at hreg
    rw [hj] at hrun
    injection hrun with hrun; subst hrun
    obtain ⟨x, hx, B', tot', mm, r1, rfl, r3⟩ := k3
    rw [hb'] at r1
    obtain ⟨rfl, rfl⟩ := Prod.mk.inj (Option.some.inj r1)
    refine ⟨ρ, Ren.le.refl _, hr.pure k2, _, hx, B, tot, mm, q1, rfl, ?_⟩
    have := r3.2
    have e : (mm : Int) = j := by omega
    rw [e]; exact IR.lit _
  · rename_i he
    simp only at he; subst he
    split at hreg <;> try (cases hreg; done)
    rename_i hj
    rw [hj] at hrun
    injection hrun with hrun; subst hrun
    obtain ⟨x, hx, hv⟩ := k3
    exact ⟨ρ, Ren.le.refl _, hr.pure k2, x, hx, hv⟩
end Go.Proofs.YtmlfmkebljdoiaaGreatDoor
