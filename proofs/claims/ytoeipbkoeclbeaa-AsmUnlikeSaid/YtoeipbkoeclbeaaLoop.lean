/- Own text: the loop of AsmUnlike that looks for a text among those before. -/
import Derived.Test.YtoeipbkoeclbeaaInfo
import Derived.Test.YtoeipbkoeclbeaaEvSe4
import Derived.KernelRfl
namespace Go.Proofs.Ytoeipbkoeclbeaa
open Go.Ev Go.Ev.Tr Go.Proofs
set_option maxRecDepth 1000000
def sL : Code → Code
  | .seq a _ => a
  | c => c
def sR : Code → Code
  | .seq _ b => b
  | c => c
def bL : Code → Code
  | .block _ b => b
  | c => c
def lL : Code → Code
  | .loop b => b
  | c => c
noncomputable def c7 : Code := match Try.f7.body with
  | some c => c
  | none => .skip
noncomputable def LB : Code := lL (bL (sR (sL (sR (sR c7)))))
noncomputable def BD : Code := bL (sL (sR LB))
noncomputable def B2 : Code := sR (sL (sR (sR BD)))
noncomputable def IB : Code := lL (bL B2)
def noCall : CallF := fun _ _ _ _ => .fail
def big : Int := 1000000
def roC (ss : List (List UInt8)) (s : List UInt8) : RO := fun id => match Nat.beq id 0 with
  | true => some (.strs ss)
  | false => match Nat.beq id 1 with
    | true => some (.cells [.ssym s, .any, .any, .any])
    | false => none
/-- What the loop knows. -/
structure LP where
  ss : List (List UInt8)
  s : List UInt8
  v0 : V
  v2 : V
  m : Int
  clo : Int
  chi : Int
def tmK (p : LP) (k : Int) : Tr V := ((((Tr.lf.set 1 (some (.slice 0 1 (I.lit 0) ⟨p.m, 0, big⟩ p.clo p.chi))).set 3 (some (.ptr 1 (I.lit 0)))).set 5 (some (.int .i64 ⟨k, 0, big⟩))).set 0 (some p.v0)).set 2 (some p.v2)
def hpK : Hp := ⟨.lf, 2, 1000⟩
def stK (p : LP) (k : Int) : St := ⟨tmK p k, [], hpK⟩
noncomputable def body (p : LP) (k : Int) : T (X × St) := evC env (roC p.ss p.s) noCall 47 100 IB (stK p k)
def T.path {α : Type} : List Bool → T α → Option (List Bool × α)
  | [], .ret a => some ([], a)
  | b :: bs, .br c x y => match T.path bs (match b with
    | true => x
    | false => y) with
    | some p => some (c :: p.1, p.2)
    | none => none
  | _, _ => none
theorem T.path_run {α : Type} : ∀ {bs : List Bool} {t : T α} {a : α}, T.path bs t = some (bs, a) → t.run = some a
  | [], .ret a, b, h => by simp [T.path] at h; simp [T.run, h]
  | [], .fail, _, h => by simp [T.path] at h
  | [], .br _ _ _, _, h => by simp [T.path] at h
  | _ :: _, .ret _, _, h => by simp [T.path] at h
  | _ :: _, .fail, _, h => by simp [T.path] at h
  | b :: bs, .br c x y, a, h => by
    simp only [T.path] at h
    split at h <;> try contradiction
    rename_i p hp
    simp only [Option.some.injEq, Prod.mk.injEq, List.cons.injEq] at h
    obtain ⟨⟨rfl, h2⟩, h3⟩ := h
    obtain ⟨p1, p2⟩ := p
    simp only at h2 h3
    subst h2; subst h3
    have := T.path_run hp
    cases c <;> simpa [T.run] using this
/-- What is looked at of the outcome. -/
def view (p : List Bool × (X × St)) : List Bool × (X × (Option V × Option V × Option V × Option V × Option V)) :=
  (p.1, (p.2.1, (p.2.2.tmps.get 0, p.2.2.tmps.get 1, p.2.2.tmps.get 2, p.2.2.tmps.get 3, p.2.2.tmps.get 5)))
theorem bodyGo : (fun (p : LP) (k : Int) => (T.path [true, true, true, false] (body p k)).map fun q => (view q, q.2.2.dfr)) =
    (fun (p : LP) (k : Int) => some (([decide (k < p.m), decide (0 ≤ k ∧ k < p.m), decide (0 ≤ k ∧ k < p.ss.length), p.ss.getD k.toNat [] == p.s],
      (.normal, (some p.v0, some (.slice 0 1 (I.lit 0) ⟨p.m, 0, big⟩ p.clo p.chi), some p.v2, some (.ptr 1 (I.lit 0)), some (.int .i64 ⟨k + 1, 1, 1000001⟩)))), [])) := by kernel_rfl
theorem bodyEnd : (fun (p : LP) (k : Int) => (T.path [false] (body p k)).map fun q => (view q, q.2.2.dfr)) =
    (fun (p : LP) (k : Int) => some (([decide (k < p.m)],
      (.exit 2, (some p.v0, some (.slice 0 1 (I.lit 0) ⟨p.m, 0, big⟩ p.clo p.chi), some p.v2, some (.ptr 1 (I.lit 0)), some (.int .i64 ⟨k, 0, big⟩)))), [])) := by kernel_rfl
end Go.Proofs.Ytoeipbkoeclbeaa
