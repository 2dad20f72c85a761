/- Own text: a call that reads a row, in any memory. -/
import Derived.Test.YtlmacdfbdhpljaaGreatDoorOt
namespace Go.Proofs.YtlmacdfbdhpljaaGreatDoor
open Go.Ev Go.Ev.Tr Go.Proofs
set_option maxRecDepth 1000000
/-- The numbering of such a call. -/
def renW (B n : Nat) : Ren := ⟨fun id => match Nat.ble 6 id with
  | false => some (id, 20)
  | true => match Nat.beq id 6 with
    | true => some (B, n)
    | false => none, fun _ => none⟩
/-- In this world numbers of bytes stand there. -/
def WinAt (w : World) (B n : Nat) (xs : List I) : Prop := ∃ l t fz, w.heap[B]? = some (.cells ⟨l⟩ t fz) ∧ ∀ (i : Nat) (x : I), xs[i]? = some x → ∃ m, l[n + i]? = some (.int .u8 m) ∧ IR x m
theorem pow_BR {w0 : Base} {F : Nat → Prop} {ρ : Ren} {hp : Hp} {w : World} {ro : RO} (hr : Rel w0 F 6 ro ρ hp w) (h : isPow ro = true) (ρ1 : Ren) : ∃ o, w.heap[0]? = some o ∧ BR ρ1 20 (.cells pow10C) o := by
  have h0 : ro 0 = some (.cells pow10C) := isPow_sub h 0 _ rfl
  obtain ⟨B, tot, o, e1, e2, e3, _⟩ := hr.blk 0 _ (hr.at_ro h0)
  obtain ⟨t, ht⟩ := hr.glob 0 (by decide)
  rw [ht] at e1
  obtain ⟨rfl, rfl⟩ := Prod.mk.inj (Option.some.inj e1)
  obtain ⟨l, ty, fz, rfl, h2, h3, h4⟩ := e3
  have hl := h2.length
  have hl20 : l.length = 20 := hl
  refine ⟨_, e2, l, ty, fz, rfl, ?_, hl20, ?_⟩
  · exact flats_mono (ρ := ρ) (ρ' := ⟨ρ1.f, ρ.H⟩) (fun _ _ h => h) _ _ rfl h2 |> fun h => by
      rw [pow10L] at h ⊢
      have e := lits_eq h
      rw [e]
      have : ∀ zs : List Int, VRs ρ1 (zs.map fun n => V.int .u64 (I.lit n)) (zs.map fun z => Value.int .u64 z) := by
        intro zs
        induction zs with
        | nil => rfl
        | cons z zs ih => exact ⟨_, _, rfl, ⟨z, rfl, IR.lit z⟩, ih⟩
      exact this _
  · rw [← hl20, h3]; exact h4
theorem rel_win {w0 : Base} {F : Nat → Prop} {ρ : Ren} {hp : Hp} {w : World} {ro : RO} (hr : Rel w0 F 6 ro ρ hp w) (hpow : isPow ro = true) {B n : Nat} {xs : List I} (hw : WinAt w B n xs) :
    Rel ⟨w, renW B n, 7⟩ (fun _ => False) 6 (roW xs) (renW B n) hpW w := by
  obtain ⟨o, p1, p2⟩ := pow_BR hr hpow (renW B n)
  obtain ⟨l, t, fz, w1, w2⟩ := hw
  have at0 : ∀ id b, Hp.at (roW xs) hpW id = some b → (id = 0 ∧ b = .cells pow10C) ∨ (id = 6 ∧ b = .win .u8 xs) := fun id b h => by
    have h : roW xs id = some b := h
    unfold roW at h
    split at h
    · rename_i e
      injection h with h
      exact .inl ⟨Nat.eq_of_beq_eq_true e, h.symm⟩
    · split at h
      · rename_i e
        injection h with h
        exact .inr ⟨Nat.eq_of_beq_eq_true e, h.symm⟩
      · cases h
  refine ⟨fun id b h => ?_, fun i j b c B' t' t'' hi hj e1 e2 => .inr ⟨rfl, rfl⟩, fun id b h => (by cases h), fun id i1 i2 => ?_, fun _ _ _ => rfl, Nat.le_refl _, rfl, rfl, rfl, fun g hg => ⟨20, ?_⟩, fun id x hx => .inl hx, Nat.le_refl _, fun B l h => (by cases h), fun id b B t h => (by cases h), fun B l h => (by cases h)⟩
  · rcases at0 id b h with ⟨rfl, rfl⟩ | ⟨rfl, rfl⟩
    · exact ⟨0, 20, o, rfl, p1, p2, .inl rfl⟩
    · exact ⟨B, n, _, rfl, w1, ⟨l, t, fz, rfl, w2⟩, .inl rfl⟩
  · have i1 : 7 ≤ id := i1
    show (match Nat.ble 6 id with
      | false => some (id, 20)
      | true => match Nat.beq id 6 with
        | true => some (B, n)
        | false => none) = none
    have e1 : Nat.ble 6 id = true := Nat.ble_eq_true_of_le (by omega)
    have e2 : Nat.beq id 6 = false := by
      cases h : Nat.beq id 6 with
      | false => rfl
      | true => have := Nat.eq_of_beq_eq_true h; omega
    rw [e1, e2]
  · show (match Nat.ble 6 g with
      | false => some (g, 20)
      | true => match Nat.beq g 6 with
        | true => some (B, n)
        | false => none) = _
    have e1 : Nat.ble 6 g = false := by
      cases h : Nat.ble 6 g with
      | false => rfl
      | true => have := Nat.le_of_ble_eq_true h; omega
    rw [e1]
/-- A call that reads a row of bytes. -/
theorem winCall {call : CallF} (hc : CallOK Tryz.prog 6 call) {f : Nat} {args : List V} {v : V} {hp' : Hp} {xs : List I} (h : (call (roW xs) f args hpW).run = some (.ret v, hp')) (hv : V.under 0 v = true)
    {w0 : Base} {F : Nat → Prop} {ρ : Ren} {hp : Hp} {w : World} {ro : RO} (hr : Rel w0 F 6 ro ρ hp w) (hpow : isPow ro = true) {B n : Nat} (hw : WinAt w B n xs) {l : List Value} (hl : VRs (renW B n) args l) :
    (∀ w, (callFunc f ⟨l⟩).run Tryz.prog w = .ok (.enter f ⟨l⟩) w) ∧ Calls Tryz.prog f ⟨l⟩ w (EndR w0 F 6 ro ρ (.ret v, hp)) := by
  obtain ⟨g1, g2⟩ := hc _ _ _ _ _ h _ _ _ w l (rel_win hr hpow hw) hl
  refine ⟨g1, g2.mono fun e w' ⟨ρ', k1, k2, x, k3, k4⟩ => ⟨ρ, Ren.le.refl _, hr.pure k2, x, k3, under_mono (n := 0) (fun id x _ h => by omega) v x hv k4⟩⟩
end Go.Proofs.YtlmacdfbdhpljaaGreatDoor
