/- Own text: tables of types and functions. -/
import Derived.Test.YtoeipbkoeclbeaaEvDr6
namespace Go.Ev
def Tr.All {α : Type} (p : Nat → α → Prop) : Tr α → (Nat → Nat) → Prop
  | .lf, _ => True
  | .nd v l r, num => (match v with
    | some x => p (num 0) x
    | none => True) ∧ l.All p (fun k => num (2 * k + 1)) ∧ r.All p (fun k => num (2 * k + 2))
theorem Tr.All.get {α : Type} {p : Nat → α → Prop} : ∀ {t : Tr α} {num : Nat → Nat}, t.All p num → ∀ {k : Nat} {x : α}, t.get k = some x → p (num k) x
  | .lf, _, _, _, _, h => by cases h
  | .nd v l r, num, ⟨h1, h2, h3⟩, k, x, h => by
    simp only [Tr.get, beq0, beq1] at h
    by_cases h0 : k = 0
    · subst h0
      simp only [decide_true] at h
      subst h
      exact h1
    · by_cases hp : k % 2 = 1
      · simp only [h0, hp, decide_true, decide_false] at h
        have := Tr.All.get h2 h
        rw [show 2 * (k / 2) + 1 = k by omega] at this
        exact this
      · simp only [h0, hp, decide_false] at h
        have := Tr.All.get h3 h
        rw [show 2 * (k / 2 - 1) + 2 = k by omega] at this
        exact this
def TyFact (P : Program) (t : Nat) (i : TI) : Prop := P.underlying t = some i.und ∧ (∃ f, P.info? t = some f ∧ f.size = i.size ∧ f.bytes = i.bytes ∧ f.zero = i.zero) ∧
  ((∃ fs, i.und = .struct fs) → (i.egt = false → P.eqGuardType P.depth t = false) ∧ (i.stood = false → P.stoodInHeld t = false))
def FnFact (P : Program) (f : Nat) (fn : Func) : Prop := P.funcs[f]? = some fn ∧ ∀ (args : Array Value) (w : World), (callFunc f args).run P w = .ok (.enter f args) w
theorem envOK_of {P : Program} {tys : Tr TI} {fns : Tr Func} {G : Nat} {sm : Nat → Option Summ} {cls : Nat → Cls} (h1 : tys.All (TyFact P) id) (h2 : fns.All (FnFact P) id) (h3 : P.follows .mixedOrders = true) :
    EnvOK P { ti := fun t => tys.get t, G, fn := fun f => fns.get f, sm, cls } where
  ty := ⟨fun t i h => (h1.get h).1, fun t i h => (h1.get h).2.1, fun t i fs h hs he => ((h1.get h).2.2 ⟨fs, hs⟩).1 he, fun t i fs h hs he => ((h1.get h).2.2 ⟨fs, hs⟩).2 he⟩
  fn := fun f fn h => (h2.get h).1
  call := fun f fn h => (h2.get h).2
  mixed := h3
theorem evF_ok {P : Program} {E : Env} (hE : EnvOK P E) (hS : SumOK P E) (N n : Nat) : CallOK P E.G (evF E N n) :=
  evF_sound hE hS (fun _ hc => evDraw_sound hE hc) N n
theorem sumOK_none {P : Program} {E : Env} (h : ∀ f, E.sm f = none) : SumOK P E := fun f s hs => by rw [h f] at hs; cases hs
end Go.Ev
