/- Own text: how a scanner lies in memory. -/
import Derived.Test.YtlmacdfbdhpljaaGreatDoorSb
namespace Go.Proofs.YtlmacdfbdhpljaaGreatDoor
open Go.Ev Go.Ev.Tr Go.Proofs
set_option maxRecDepth 1000000
structure Sc where
  s : List UInt8
  i : Int
  o : Int
  full : Bool
  scope : List UInt8
  lost : Bool
def scKs : List KS := [.s, .i .i64 0 281474976710656, .i .i64 0 32, .b, .s, .b]
def inSc (x : Sc) : Bool := decide (0 ≤ x.i) && (decide (x.i ≤ x.s.length) && (decide (x.s.length ≤ 1099511627776) && (decide (0 ≤ x.o) && (decide (x.o ≤ 32) && decide (x.scope.length ≤ 1099511627776)))))
structure InSc (x : Sc) : Prop where
  i0 : 0 ≤ x.i
  i1 : x.i ≤ x.s.length
  s : x.s.length ≤ 1099511627776
  o0 : 0 ≤ x.o
  o1 : x.o ≤ 32
  scope : x.scope.length ≤ 1099511627776
theorem inSc_iff {x : Sc} : inSc x = true ↔ InSc x := by
  simp only [inSc, Bool.and_eq_true, decide_eq_true_eq]
  exact ⟨fun ⟨a, b, c, d, e, f⟩ => ⟨a, b, c, d, e, f⟩, fun ⟨a, b, c, d, e, f⟩ => ⟨a, b, c, d, e, f⟩⟩
def scCn (x : Sc) : List SV := [.s x.s, .i x.i, .i x.o, .b x.full, .s x.scope, .b x.lost]
def scPar : List SV → Option Sc
  | [.s s, .i i, .i o, .b full, .s scope, .b lost] => some ⟨s, i, o, full, scope, lost⟩
  | _ => none
theorem scPar_eq {l : List SV} {x : Sc} (h : scPar l = some x) : l = scCn x := by
  unfold scPar at h
  split at h
  · injection h with h; subst h; rfl
  · cases h
theorem scOk {x : Sc} (h : inSc x = true) : okCs scKs (scCn x) = true := by
  have h := inSc_iff.1 h
  simp only [scKs, scCn, okCs, okK, Bool.and_eq_true, decide_eq_true_eq, Bool.and_true]
  have := h.i0; have := h.i1; have := h.s; have := h.o0; have := h.o1; have := h.scope

  refine ⟨by omega, ⟨by omega, by omega⟩, ⟨by omega, by omega⟩, trivial, by omega⟩
def scB : BCod Sc where
  ks := [scKs]
  cn x := [scCn x]
  par l := match l with
    | [u] => scPar u
    | _ => none
  ok := inSc
  h l a h := by
    split at h
    · rw [scPar_eq h]
    · cases h
  hok a h := by
    show (okCs scKs (scCn a) && true) = true
    rw [scOk h]; rfl
  len _ := rfl
  flat a _ b hb := by
    have e : b = .cells (encCs scKs (scCn a)) := by simpa [encBl0] using hb
    subst e; rfl
def sc0 : Sc := ⟨[], 0, 0, false, [], false⟩
/-- No blocks. -/
def nilB : BCod Unit where
  ks := []
  cn _ := []
  par l := match l with
    | [] => some ()
    | _ => none
  ok _ := true
  h l a h := by
    split at h
    · rfl
    · cases h
  hok _ _ := rfl
  len _ := rfl
  flat _ _ b hb := by cases hb
/-- The cells of a scanner are within their bounds. -/
def okSc (x : Sc) : Bool := okCs scKs (scCn x)
theorem okSc_of {x : Sc} (h : InSc x) : okSc x = true := scOk (inSc_iff.2 h)
/-- The run of a function without told loops. -/
noncomputable def evOf {σ A α : Type} (call : CallF) (s : SFn0 σ A α) (x : σ) (a : A) : T (AEnd × Hp) := call noRO s.f (ptrArgs 6 s.k ++ s.encA a) (hpL 6 1000000 (s.encB x))
/-- A run, as it is looked at. -/
noncomputable def viewT {σ A α : Type} (s : SFn0 σ A α) (t : T (AEnd × Hp)) : T (Bool × α × σ) := t.bind fun q => match s.view q with
  | some r => .br (s.inB r.2.2 && s.okR r.2.1) (.ret r) .fail
  | none => .fail
noncomputable def bodyOf (f : Nat) : Code := match fns.get f with
  | some fn => match fn.body with
    | some c => c
    | none => .skip
  | none => .skip
noncomputable def fnOf (f : Nat) : Func := (fns.get f).getD default
noncomputable def ntOf (f : Nat) : Nat := (fnOf f).ntmps
/-- The body of a loop. -/
noncomputable def loopOf (f k : Nat) : Code := unLoop ((blocksOf k (bodyOf f)).headD .skip)
/-- The loop k of f is told. -/
def hook1 (k : Nat) (h : St → T (X × St)) (id : Nat) : Option (St → T (X × St)) := match Nat.beq id k with
  | true => some h
  | false => none
/-- A loop's state is the scanner alone, and some temporaries. -/
def scSp (ts : List (Nat × KS)) : LSpec := ⟨(0, .p 6) :: ts, [(6, scKs)], 1000, 1000000⟩
noncomputable def envS (sm : Nat → Option Summ) : Env := { env0 with sm := sm }
theorem envSOK (sm : Nat → Option Summ) : EnvOK Tryz.prog (envS sm) := envOK_of tysOK fnsOK mixedOK
noncomputable def callS (sm : Nat → Option Summ) : CallF := evG (envS sm) 10000 1000
theorem callSOK {sm : Nat → Option Summ} (h : ∀ f s, sm f = some s → SumAt f s) : CallOK Tryz.prog 6 (callS sm) := evG_ok (envSOK sm) h 10000 1000
/-- The run of a function whose loops are told. -/
noncomputable def evHook {σ A α : Type} (sm : Nat → Option Summ) (h : Nat → Option (St → T (X × St))) (s : SFn0 σ A α) (x : σ) (a : A) : T (AEnd × Hp) := bodyF2 (envS sm) 10000 (callS sm) noRO (fnOf s.f) (withHooks h (bodyOf s.f)) (ptrArgs 6 s.k ++ s.encA a) (hpL 6 1000000 (s.encB x))
theorem evHook_at {σ A α : Type} {sm : Nat → Option Summ} (hsm : ∀ f s, sm f = some s → SumAt f s) {h : Nat → Option (St → T (X × St))} {s : SFn0 σ A α} (hf : fns.get s.f = some (fnOf s.f)) (hb : (fnOf s.f).body = some (bodyOf s.f))
    (hh : ∀ id g b, h id = some g → b ∈ blocksOf id (bodyOf s.f) → ∀ w0 F, HookOK Tryz.prog (envS sm) w0 F noRO (ntOf s.f) (.block id b) g) (x : σ) (a : A) : EvAt s.f (ptrArgs 6 s.k ++ s.encA a) (hpL 6 1000000 (s.encB x)) (evHook sm h s x a) := by
  intro r hr w0 F ρ w l hrel hl
  refine ⟨callsAt s.f _ hf _, bodyF2_sound (E := envS sm) (c := withHooks h (bodyOf s.f)) (envSOK sm) (callSOK hsm) ((envSOK sm).fn _ _ hf) (by rw [withHooks_erase]; exact hb) (withHooks_ok _ fun id g b h1 h2 => hh id g b h1 h2 w0 F) hr hrel hl⟩
/-- The loop k of a function, in a state that its data tell. -/
noncomputable def roundS (sm : Nat → Option Summ) (f : Nat) (sp : LSpec) (h : Nat → Option (St → T (X × St))) (k : Nat) (d : SD) : Option (X × SD) := roundT (envS sm) (callS sm) (ntOf f) sp (withHooks h (loopOf f k)) d
theorem hook_ok {sm : Nat → Option Summ} (hsm : ∀ f s, sm f = some s → SumAt f s) {f k : Nat} {sp : LSpec} (hG : 6 ≤ sp.nxt) {σ : Type} {cn : σ → SD} {par : SD → Option σ} {fin : σ → T (LX × σ)} {μ : σ → Nat} (hb : blocksOf k (bodyOf f) = [.loop (loopOf f k)]) (hpar : ∀ d s, par d = some s → d = cn s)
    (step : ∀ s r, (fin s).run = some r → (∃ s', roundS sm f sp (fun _ => none) k (cn s) = some (.normal, cn s') ∧ (fin s').run = some r ∧ μ s' < μ s) ∨ (roundS sm f sp (fun _ => none) k (cn s) = some (.exit k, cn r.2) ∧ r.1 = .nrm) ∨
      (roundS sm f sp (fun _ => none) k (cn s) = some (.ret, cn r.2) ∧ r.1 = .ret) ∨ (∃ v, roundS sm f sp (fun _ => none) k (cn s) = some (.pan v, cn r.2) ∧ v.flat = true ∧ r.1 = .pan v)) :
    ∀ id g b, hook1 k (loopF sp par cn fin) id = some g → b ∈ blocksOf id (bodyOf f) → ∀ w0 F, HookOK Tryz.prog (envS sm) w0 F noRO (ntOf f) (.block id b) g := by
  intro id g b h1 h2 w0 F
  unfold hook1 at h1
  split at h1 <;> try contradiction
  rename_i hid
  have hid := Nat.eq_of_beq_eq_true hid
  subst hid
  injection h1 with h1; subst h1
  rw [hb] at h2
  have e : b = .loop (loopOf f id) := by simpa using h2
  subst e
  have := loopF_ok (envSOK sm) (callSOK hsm) (b := withHooks (fun _ => none) (loopOf f id)) (id := id) (sp := sp) (cn := cn) (par := par) (fin := fin) (μ := μ) (nt := ntOf f) hG (fun w0 F => withHooks_ok _ fun _ _ _ h _ => by cases h) hpar step w0 F
  rw [withHooks_erase] at this
  exact this
end Go.Proofs.YtlmacdfbdhpljaaGreatDoor
