/- Own text: expressions, by as many steps down as are granted. -/
import Derived.Test.YtlmacdfbdhpljaaGreatDoorSo3
namespace Go.Proofs.YtlmacdfbdhpljaaGreatDoor
open Go.Ev Go.Ev.Tr Go.Proofs
set_option maxRecDepth 1000000
abbrev RdR := Option (Bool × Dv × Sc)
def toMv (y : Sc) : Mv := (y.i, y.o, y.lost)
/-- The text, and what goes with it, are as they were. -/
def Kept (x y : Sc) : Prop := y.s = x.s ∧ y.full = x.full ∧ y.scope = x.scope
def Kp (x : Sc) (t : RdR) : Prop := ∀ r, t = some r → Kept x r.2.2
theorem Kp.none {x : Sc} : Kp x none := fun _ h => by cases h
theorem Kp.cond {x : Sc} {c : Bool} {s t : RdR} (h1 : Kp x s) (h2 : Kp x t) : Kp x (bif c then s else t) := by cases c <;> assumption
theorem Kp.ans {x y : Sc} {b : Bool} {d : Dv} (h : Kept x y) : Kp x (exAns b y d) := by
  intro r hr
  unfold exAns at hr
  cases hc : inSc y && okCs [.d] [.d d] with
  | false => rw [hc] at hr; cases hr
  | true =>
    rw [hc] at hr
    simp only [cond_true, Option.some.injEq] at hr
    subst hr; exact h
theorem Kp.on {x y : Sc} {p : Sc → Bool} {a : AtM} {mk : Dv → Dv} : Kp x (onT x y p a mk) := by
  unfold onT
  exact .cond (.cond (.ans ⟨rfl, rfl, rfl⟩) (.ans ⟨rfl, rfl, rfl⟩)) .none
theorem atomR_kp {pa : Sc → Bool} {a : AtM} {pi : Sc → Bool} {i : AtM} {pn : Sc → Bool} {m : AtM} {x : Sc} : Kp x (atomR pa a pi i pn m x) := by
  unfold atomR dgTr
  repeat' (first | exact Kp.none | exact Kp.on | exact Kp.ans ⟨rfl, rfl, rfl⟩ | apply Kp.cond)
theorem insideR_kp {pe : Sc → Int → Bool} {e : ExM} {x : Sc} : Kp x (insideR pe e x) := by
  unfold insideR
  repeat' (first | exact Kp.none | exact Kp.on | exact Kp.ans ⟨rfl, rfl, rfl⟩ | apply Kp.cond)
theorem wordT_kp {pi : Sc → Bool} {i : AtM} {x : Sc} : Kp x (wordT pi i x) := by
  unfold wordT ptT
  repeat' (first | exact Kp.none | exact Kp.on | exact Kp.ans ⟨rfl, rfl, rfl⟩ | apply Kp.cond)
theorem namedR_kp {pi : Sc → Bool} {i : AtM} {x : Sc} : Kp x (namedR pi i x) := by
  unfold namedR
  repeat' (first | exact Kp.none | exact wordT_kp | exact Kp.ans ⟨rfl, rfl, rfl⟩ | apply Kp.cond)
def preT (t : Sc → RdR) : Sc → Bool := fun x => (t x).isSome
def getT (t : Sc → RdR) : AtM := fun x => match t x with
  | some r => (r.1, r.2.1, toMv r.2.2)
  | none => exD
theorem getT_eq {t : Sc → RdR} {x : Sc} {r : Bool × Dv × Sc} (h : t x = some r) (hk : Kp x (t x)) : r = ((getT t x).1, (getT t x).2.1, upd x (getT t x).2.2) := by
  have e : getT t x = (r.1, r.2.1, toMv r.2.2) := by
    unfold getT
    rw [h]
  rw [e]
  obtain ⟨k1, k2, k3⟩ := hk r h
  obtain ⟨b, d, y⟩ := r
  obtain ⟨s, i, o, full, scope, lost⟩ := y
  simp only at k1 k2 k3
  subst k1; subst k2; subst k3
  rfl
/-- How deep it may go. -/
structure Lv where
  pe : Sc → Int → Bool
  e : ExM
  pa : Sc → Bool
  a : AtM
  pi : Sc → Bool
  i : AtM
  pn : Sc → Bool
  m : AtM
def lv0 : Lv := ⟨fun _ _ => false, fun _ _ => exD, fun _ => false, fun _ => exD, fun _ => false, fun _ => exD, fun _ => false, fun _ => exD⟩
def Lv.up (L : Lv) : Lv := ⟨preE (exprM L.pe L.e L.pa L.a), getE (exprM L.pe L.e L.pa L.a), preT (atomR L.pa L.a L.pi L.i L.pn L.m), getT (atomR L.pa L.a L.pi L.i L.pn L.m), preT (insideR L.pe L.e), getT (insideR L.pe L.e), preT (namedR L.pi L.i), getT (namedR L.pi L.i)⟩
def lv : Nat → Lv
  | 0 => lv0
  | k + 1 => (lv k).up
structure LvAt (L : Lv) : Prop where
  e : SumAt 38 (exprF L.pe L.e).sum
  a : SumAt 74 (atF atom0 L.pa L.a).sum
  i : SumAt 116 (atF inside0 L.pi L.i).sum
  m : SumAt 117 (atF named0 L.pn L.m).sum
theorem smG_ok {L : Lv} (h : LvAt L) : ∀ f s, smG L.pe L.e L.pa L.a L.pi L.i L.pn L.m f = some s → SumAt f s := sm_cons (sm_cons (smE_ok h.e h.a) h.m) h.i
theorem up_at {L : Lv} (h : LvAt L) : LvAt L.up where
  e := expr_at h.e h.a
  a := SFn.sound (ev := evHook (smG L.pe L.e L.pa L.a L.pi L.i L.pn L.m) (fun _ => none) atom0) (mkFn_ok (evHook_at (smG_ok h) (s := atom0) (by kernel_rfl) (by kernel_rfl) (fun _ _ _ h _ => by cases h)) fun x _ _ _ hp => by
    obtain ⟨r, hr⟩ := Option.isSome_iff_exists.1 hp
    refine (atom_ev L.pe L.e L.pa L.a L.pi L.i L.pn L.m x).trans (hr.trans ?_)
    exact congrArg some (getT_eq hr atomR_kp))
  i := SFn.sound (ev := evHook (smE L.pe L.e L.pa L.a) (fun _ => none) inside0) (mkFn_ok (evHook_at (smE_ok h.e h.a) (s := inside0) (by kernel_rfl) (by kernel_rfl) (fun _ _ _ h _ => by cases h)) fun x _ _ _ hp => by
    obtain ⟨r, hr⟩ := Option.isSome_iff_exists.1 hp
    refine (inside_ev L.pe L.e L.pa L.a x).trans (hr.trans ?_)
    exact congrArg some (getT_eq hr insideR_kp))
  m := SFn.sound (ev := evHook (smG L.pe L.e L.pa L.a L.pi L.i L.pn L.m) (fun _ => none) named0) (mkFn_ok (evHook_at (smG_ok h) (s := named0) (by kernel_rfl) (by kernel_rfl) (fun _ _ _ h _ => by cases h)) fun x _ _ _ hp => by
    obtain ⟨r, hr⟩ := Option.isSome_iff_exists.1 hp
    refine (named_ev L.pe L.e L.pa L.a L.pi L.i L.pn L.m x).trans (hr.trans ?_)
    exact congrArg some (getT_eq hr namedR_kp))
theorem sum_none {σ A α : Type} {s : SFn0 σ A α} {mod : σ → A → Bool × α × σ} : SumAt s.f (SFn.mk s (fun _ _ => false) mod).sum := by
  intro ro hp args r hrun
  exfalso
  unfold SFn.sum at hrun
  split at hrun <;> try (cases hrun; done)
  split at hrun <;> try (cases hrun; done)
  split at hrun <;> try (cases hrun; done)
  split at hrun <;> try (cases hrun; done)
  split at hrun <;> try (cases hrun; done)
  simp only [T.run, SFn.ask, Bool.and_false, cond_false] at hrun
  cases hrun
theorem lv0_at : LvAt lv0 := ⟨sum_none, sum_none, sum_none, sum_none⟩
theorem lv_at : ∀ k, LvAt (lv k)
  | 0 => lv0_at
  | k + 1 => up_at (lv_at k)
end Go.Proofs.YtlmacdfbdhpljaaGreatDoor
