/- Own text: a call that reads a row, all of it, in any memory. -/
import Derived.Test.YtlmacdfbdhpljaaGreatDoorOq
namespace Go.Proofs.YtlmacdfbdhpljaaGreatDoor
open Go.Ev Go.Ev.Tr Go.Proofs
set_option maxRecDepth 1000000
def roG (s : Nat) (xs : List Int) : RO := fun id => match Nat.beq id 0 with
  | true => some (.cells pow10C)
  | false => match Nat.beq id 6 with
    | true => some (.seg .u8 s xs 0 255)
    | false => none
/-- The slice, as it is told within. -/
def slG (s n : Nat) : V := .slice 6 1 ⟨s, -1, s⟩ ⟨n, 0, 281474976710656⟩ n magicS
theorem rel_seg {w0 : Base} {F : Nat → Prop} {ρ : Ren} {hp : Hp} {w : World} {ro : RO} (hr : Rel w0 F 6 ro ρ hp w) (hpow : isPow ro = true) {B s tot : Nat} {xs : List Int} {l : List Value} {t : TypeId} {fz : Nat × Nat} (hw : w.heap[B]? = some (.cells ⟨l⟩ t fz)) (ht : l.length = tot)
    (hx : ∀ i, (h : i < xs.length) → l[s + i]? = some (.int .u8 xs[i]) ∧ 0 ≤ xs[i] ∧ xs[i] ≤ 255) : Rel ⟨w, renW B tot, 7⟩ (fun _ => False) 6 (roG s xs) (renW B tot) hpW w := by
  obtain ⟨o, p1, p2⟩ := pow_BR hr hpow (renW B tot)
  have at0 : ∀ id b, Hp.at (roG s xs) hpW id = some b → (id = 0 ∧ b = .cells pow10C) ∨ (id = 6 ∧ b = .seg .u8 s xs 0 255) := fun id b h => by
    have h : roG s xs id = some b := h
    unfold roG at h
    split at h
    · rename_i e
      injection h with h
      exact .inl ⟨Nat.eq_of_beq_eq_true e, h.symm⟩
    · split at h
      · rename_i e
        injection h with h
        exact .inr ⟨Nat.eq_of_beq_eq_true e, h.symm⟩
      · cases h
  have base := rel_win hr hpow (B := B) (n := tot) (xs := []) ⟨l, t, fz, hw, fun i x hi => by simp at hi⟩
  refine ⟨fun id b h => ?_, fun i j b c B' t' t'' hi hj e1 e2 => .inr ⟨rfl, rfl⟩, fun id b h => (by cases h), base.fresh, base.frame, base.size, base.tape, base.os, base.output, base.glob, base.ren, base.le0, fun B l h => (by cases h), fun id b B t h => (by cases h), fun B l h => (by cases h)⟩
  rcases at0 id b h with ⟨rfl, rfl⟩ | ⟨rfl, rfl⟩
  · exact ⟨0, 20, o, rfl, p1, p2, .inl rfl⟩
  · exact ⟨B, tot, _, rfl, hw, ⟨l, t, fz, rfl, ht, hx⟩, .inl rfl⟩
noncomputable def smD2 (f : Nat) : Option Summ := match Nat.beq f 49 with
  | true => some insSum
  | false => match Nat.beq f 79 with
    | true => some insSum
    | false => sm1 f
/-- What Disasm returns. -/
def disOf (r : AEnd × Hp) : Option (V × V) := match r.1 with
  | .ret (.tup [a, b]) => some (a, b)
  | _ => none
noncomputable def disT (f : Nat) (s n : Nat) (xs : List Int) (at_ org : I) : T (Option (V × V)) := (callA smD2 (roG s xs) f [slG s n, .int .i64 at_, .int .i64 org] hpW).bind fun r => T.ret (disOf r)
end Go.Proofs.YtlmacdfbdhpljaaGreatDoor
