/- Own text: the laws' environment, and how a law ends. -/
import Derived.Test.YtmlfmkebljdoiaaGreatDoorCk
namespace Go.Proofs.YtmlfmkebljdoiaaGreatDoor
open Go.Ev Go.Ev.Tr Go.Proofs Go.ChangeShapes Go.WideShapes Go.ChangeAt Go.RowKit Go.Deep
set_option maxRecDepth 1000000
noncomputable def sm6 (f : Nat) : Option Summ := match Nat.beq f 20 with
  | true => some runsFn.sum
  | false => sm5 f
theorem sm6_ok : ∀ f s, sm6 f = some s → SumAt f s := by
  intro f s h
  unfold sm6 at h
  split at h
  · rename_i e
    have e := Nat.eq_of_beq_eq_true e
    subst e
    injection h with h; subst h; exact runs_at
  · exact sm5_ok f s h
noncomputable def env6 : Env := { env0 with sm := sm6, cls := clss }
theorem env6OK : EnvOK Tryz.prog env6 := envOK_of tysOK fnsOK mixedOK
noncomputable def call6 : CallF := evF env6 10000 1000
theorem call6OK : CallOK Tryz.prog 2 call6 := evF_ok env6OK sm6_ok 10000 1000
/-- The way through a tree by given turns: what was asked, and where it leads. -/
def path {α : Type} : List Bool → T α → Option (List Bool × α)
  | [], .ret a => some ([], a)
  | b :: bs, .br c x y => match path bs (match b with
    | true => x
    | false => y) with
    | some p => some (c :: p.1, p.2)
    | none => none
  | _, _ => none
theorem path_run {α : Type} : ∀ {bs : List Bool} {t : T α} {a : α}, path bs t = some (bs, a) → t.run = some a
  | [], .ret a, b, h => by simp [path] at h; simp [T.run, h]
  | [], .fail, _, h => by simp [path] at h
  | [], .br _ _ _, _, h => by simp [path] at h
  | _ :: _, .ret _, _, h => by simp [path] at h
  | _ :: _, .fail, _, h => by simp [path] at h
  | b :: bs, .br c x y, a, h => by
    unfold path at h
    split at h <;> try contradiction
    rename_i p hp
    simp only [Option.some.injEq, Prod.mk.injEq, List.cons.injEq] at h
    obtain ⟨⟨rfl, h1⟩, h2⟩ := h
    obtain ⟨p1, p2⟩ := p
    simp only at h1 h2
    subst h1; subst h2
    have := path_run hp
    cases c <;> simpa [T.run] using this
/-- The answer of a law, and what was asked on the way. -/
def viewB (r : AEnd × Hp) : Option Bool := match r.1 with
  | .ret (.bool b) => some b
  | .ret (.sbool b) => some b
  | _ => none
def lawPath (bs : List Bool) (t : T (AEnd × Hp)) : Option (List Bool × Option Bool) := (path bs t).map fun p => (p.1, viewB p.2)
theorem lawPath_run {bs : List Bool} {t : T (AEnd × Hp)} {cs : List Bool} {b : Bool} (h : lawPath bs t = some (cs, some b)) (h1 : cs = bs) (h2 : b = true) : ∃ v hp', t.run = some (.ret v, hp') ∧ ∀ (ρ : Ren) x, VR ρ v x → x = .bool true := by
  unfold lawPath at h
  obtain ⟨⟨cs', r⟩, e1, e2⟩ := Option.map_eq_some_iff.1 h
  simp only [Prod.mk.injEq] at e2
  obtain ⟨rfl, e3⟩ := e2
  subst h1; subst h2
  have hr := path_run e1
  obtain ⟨e, hp'⟩ := r
  unfold viewB at e3
  split at e3 <;> try contradiction
  · rename_i b he
    simp only at he; subst he
    injection e3 with e3; subst e3
    exact ⟨_, hp', hr, fun ρ x h => h⟩
  · rename_i b he
    simp only at he; subst he
    injection e3 with e3; subst e3
    exact ⟨_, hp', hr, fun ρ x h => h⟩
theorem lawEnd {f : Nat} {l : List Value} {W : World} {av : List V} {v : V} {hp' : Hp} (hrun : (call6 ro0 f av (startHp 2 1000000)).run = some (.ret v, hp')) (hv : ∀ (ρ : Ren) x, VR ρ v x → x = .bool true)
    (hL : laidMetH Tryz.prog laidL W) (hsh : W.ShapedOpen Tryz.prog) (hl : VRs ren0 av l) : Calls Tryz.prog f ⟨l⟩ W fun e W' => e = .returned (.bool true) ∧ W.keptBut W' (fun _ => False) := by
  obtain ⟨_, g2⟩ := call6OK _ _ _ _ _ hrun _ _ _ W l (rel0 hL hsh) hl
  refine g2.mono fun e W' ⟨ρ', _, hrel, x, hx, hvr⟩ => ?_
  have := hv _ _ hvr
  subst this
  refine ⟨hx, hrel.os, hrel.output, fun i hi => ?_⟩
  have := hrel.frame i hi (fun h => h)
  rw [this]
  cases hw : W.heap[i]? with
  | none => rfl
  | some o => cases o <;> first | rfl | exact ⟨rfl, rfl, rfl, fun _ _ => rfl⟩ | exact .inr ⟨rfl, rfl⟩
def InU8 (n : Int) : Prop := 0 ≤ n ∧ n ≤ 255
def u8a (n : Int) : V := .int .u8 ⟨n, 0, 255⟩
theorem u8a_VR {ρ : Ren} {n : Int} (h : InU8 n) : VR ρ (u8a n) (.int .u8 n) := ⟨n, rfl, rfl, h.1, h.2⟩
theorem in64_of {n : Int} (h : (Lit.int .i64 n).wf = true) : In64 n := by
  have e4 : IntKind.i64.min ≤ n ∧ n ≤ IntKind.i64.max := by simpa [Lit.wf] using h
  exact ⟨e4.1, e4.2⟩
theorem inU8_of {n : Int} (h : (Lit.int .u8 n).wf = true) : InU8 n := by
  have e4 : IntKind.u8.min ≤ n ∧ n ≤ IntKind.u8.max := by simpa [Lit.wf] using h
  exact ⟨e4.1, e4.2⟩
end Go.Proofs.YtmlfmkebljdoiaaGreatDoor
