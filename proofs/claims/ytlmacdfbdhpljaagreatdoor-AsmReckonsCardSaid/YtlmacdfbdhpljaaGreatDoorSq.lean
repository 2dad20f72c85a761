/- Own text: the examples of the chapter: awake. -/
import Derived.Test.YtlmacdfbdhpljaaGreatDoorSp
namespace Go.Proofs.YtlmacdfbdhpljaaGreatDoor
open Go.Ev Go.Ev.Tr Go.Proofs
set_option maxRecDepth 1000000
def clssA (f : Nat) : Cls := match Nat.beq f 299999 with
  | true => .pure
  | false => match f with
    | 104 | 106 | 110 | 155 | 156 | 157 | 158 => .new
    | _ => clss f
noncomputable def envA (sm : Nat → Option Summ) : Env := { env0 with sm := sm, cls := clssA }
theorem envAOK (sm : Nat → Option Summ) : EnvOK Tryz.prog (envA sm) := envOK_of tysOK fnsOK mixedOK
noncomputable def callA (sm : Nat → Option Summ) : CallF := evG (envA sm) 10000 1000
theorem callAOK {sm : Nat → Option Summ} (h : ∀ f s, sm f = some s → SumAt f s) : CallOK Tryz.prog 6 (callA sm) := evG_ok (envAOK sm) h 10000 1000
/-- What a run returns. -/
def endOf (r : Option (AEnd × Hp)) : Option AEnd := match r with
  | some q => some q.1
  | none => none
theorem endOf_some {r : Option (AEnd × Hp)} {e : AEnd} (h : endOf r = some e) : ∃ hp, r = some (e, hp) := by
  cases r with
  | none => cases h
  | some q => obtain ⟨a, b⟩ := q; injection h with h; exact ⟨b, by rw [← h]⟩
/-- Does a run return true? -/
def trueB (r : Option (AEnd × Hp)) : Bool := match endOf r with
  | some (.ret (.bool b)) => b
  | some (.ret (.sbool b)) => b
  | _ => false
theorem trueB_some {r : Option (AEnd × Hp)} (h : trueB r = true) : ∃ v hp, r = some (.ret v, hp) ∧ v.under 0 = true ∧ ∀ (ρ : Ren) x, VR ρ v x → x = .bool true := by
  unfold trueB at h
  split at h
  · rename_i b he
    obtain ⟨hp, h1⟩ := endOf_some he
    subst h
    exact ⟨_, hp, h1, rfl, fun ρ x hx => hx⟩
  · rename_i b he
    obtain ⟨hp, h1⟩ := endOf_some he
    subst h
    exact ⟨_, hp, h1, rfl, fun ρ x hx => hx⟩
  · cases h
theorem awake_ev : trueB (callA smA noRO 15 [] (startHp 6 1000000)).run = true := by kernel_rfl
/-- A call without arguments' places that returns true. -/
def trueSum (p : List V → Bool) : Summ := fun _ hp args => match p args with
  | true => .ret (.ret (.bool true), hp)
  | false => .fail
theorem trueSum_at {f : Nat} {p : List V → Bool} {sm : Nat → Option Summ} (hsm : ∀ f s, sm f = some s → SumAt f s)
    (h : ∀ args, p args = true → ∀ (ρ : Ren) l, VRs ρ args l → ∃ us, unders 0 us = true ∧ VRs ρ us l ∧ trueB (callA sm noRO f us (startHp 6 1000000)).run = true) : SumAt f (trueSum p) := by
  intro ro hp args r hr w0 F ρ w l hrel hl
  unfold trueSum at hr
  split at hr <;> try (cases hr; done)
  rename_i hp'
  injection hr with hr; subst hr
  obtain ⟨us, h1, h2, h3⟩ := h args hp' ρ l hl
  obtain ⟨v, hp2, h4, h5, h6⟩ := trueB_some h3
  obtain ⟨g1, g2⟩ := pureCall (callAOK hsm) h4 h5 h1 hrel h2
  refine ⟨g1, g2.mono fun en w' ⟨ρ', q1, q2, x, q3, q4⟩ => ⟨ρ', q1, q2, x, q3, ?_⟩⟩
  rw [h6 _ _ q4]; rfl
def noArgs : List V → Bool
  | [] => true
  | _ => false
theorem awake_at : SumAt 15 (trueSum noArgs) := trueSum_at smA_ok fun args ha ρ l hl => by
  cases args with
  | nil => exact ⟨[], rfl, hl, awake_ev⟩
  | cons => cases ha
end Go.Proofs.YtlmacdfbdhpljaaGreatDoor
