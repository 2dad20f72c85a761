/- Own text: calls with told arguments, whose answers lead to what does not change any more. -/
import Derived.Test.YtlmacdfbdhpljaaGreatDoorXs
namespace Go.Ev
open Go.Ev.Tr
/-- A value whose numbers are known, plain. -/
def plain1 : V → V
  | .ssym l => .str (l.map fun b => I.lit b.toNat)
  | .sbool b => .bool b
  | .int k i => .int k (I.lit i.n)
  | v => v
def plain2 : V → V
  | .agg us => .agg (us.map plain1)
  | v => plain1 v
def plainV : V → V
  | .tup vs => .tup (vs.map plain2)
  | .agg vs => .agg (vs.map plain1)
  | v => plain1 v
theorem plain1_sound {ρ : Ren} {v : V} {x : Value} (h : VR ρ v x) : VR ρ (plain1 v) x := by
  cases v with
  | ssym l =>
    obtain ⟨rfl, h2⟩ := h
    refine ⟨?_, fun i hi => ?_⟩
    · congr 2
      rw [List.map_map]
      have : ∀ l : List UInt8, l = l.map (byteOf ∘ fun b => I.lit b.toNat) := by
        intro l
        induction l with
        | nil => rfl
        | cons b l ih =>
          rw [List.map_cons, ← ih]
          congr 1
          simp [byteOf, I.lit]
      rw [← this]
    · obtain ⟨b, _, rfl⟩ := List.mem_map.1 hi
      have := b.toNat_lt
      simp only [I.lit]
      omega
  | sbool b => exact h
  | int k i =>
    obtain ⟨m, rfl, hm⟩ := h
    exact ⟨m, rfl, by have := hm.1; rw [this]; exact IR.lit _⟩
  | _ => exact h
theorem plain1s_sound {ρ : Ren} : ∀ {vs : List V} {l : List Value}, VRs ρ vs l → VRs ρ (vs.map plain1) l
  | [], _, h => h
  | _ :: _, _, ⟨x, xs, h1, h2, h3⟩ => ⟨x, xs, h1, plain1_sound h2, plain1s_sound h3⟩
theorem plainV_sound {ρ : Ren} {v : V} {x : Value} (h : VR ρ v x) : VR ρ (plainV v) x := by
  cases v with
  | tup vs =>
    obtain ⟨l, rfl, h2⟩ := h
    refine ⟨l, rfl, ?_⟩
    induction vs generalizing l with
    | nil => exact h2
    | cons v vs ih =>
      obtain ⟨y, ys, rfl, h3, h4⟩ := h2
      refine ⟨y, ys, rfl, ?_, ih ys h4⟩
      show VR ρ (plain2 v) y
      cases v with
      | agg us =>
        obtain ⟨l, rfl, h5⟩ := h3
        exact ⟨l, rfl, plain1s_sound h5⟩
      | _ => exact plain1_sound h3
  | agg vs =>
    obtain ⟨l, rfl, h2⟩ := h
    exact ⟨l, rfl, plain1s_sound h2⟩
  | ssym l => exact plain1_sound h
  | sbool b => exact plain1_sound h
  | int k i => exact plain1_sound h
  | _ => exact h
/-- The place of some arguments in a table. -/
def findTold (args : List V) : Nat → List (List V × V) → Option Nat
  | _, [] => none
  | k, p :: r => match vsEq args p.1 with
    | true => some k
    | false => findTold args (k + 1) r
theorem findTold_some {args : List V} : ∀ {k j : Nat} {tab : List (List V × V)}, findTold args k tab = some j → k ≤ j ∧ ∃ p, tab[j - k]? = some p ∧ args = p.1
  | _, _, [], h => by cases h
  | k, j, p :: r, h => by
    unfold findTold at h
    split at h
    · rename_i he
      injection h with h; subst h
      exact ⟨Nat.le_refl _, p, by simp, vsEq_sound _ _ he⟩
    · obtain ⟨h1, q, h2, h3⟩ := findTold_some h
      refine ⟨by omega, q, ?_, h3⟩
      rw [show j - k = (j - (k + 1)) + 1 by omega]
      simpa using h2
end Go.Ev
namespace Go.Proofs.YtlmacdfbdhpljaaGreatDoor
open Go.Ev Go.Ev.Tr Go.Proofs
set_option maxRecDepth 1000000
def FlatV := { v : V // v.flat = true }
def tabAt (tab : List (List V × V)) (i : Nat) : List V × V := (tab[i]?).getD ([], .nilp)
/-- A function that is called with told arguments alone. -/
def litFn0 (f : Nat) (tab : List (List V × V)) : SFn0 Unit Nat FlatV where
  f := f
  k := 0
  decB cs := match cs with
    | [] => some ()
    | _ :: _ => none
  encB _ := []
  inB _ := true
  okA a := flats (tabAt tab a).1
  okR _ := true
  dec xs := findTold xs 0 tab
  encA a := match flats (tabAt tab a).1 with
    | true => (tabAt tab a).1
    | false => []
  decV v := match h : V.flat (plainV v) with
    | true => some ⟨plainV v, h⟩
    | false => none
  enc v := v.1
  dflt := (false, ⟨.nilp, rfl⟩, ())
def litFn (f : Nat) (tab : List (List V × V)) : SFn Unit Nat FlatV where
  toSFn0 := litFn0 f tab
  pre _ i := match V.flat (tabAt tab i).2 with
    | true => Nat.ble (i + 1) tab.length
    | false => false
  mod _ i := (false, match h : V.flat (tabAt tab i).2 with
    | true => ⟨(tabAt tab i).2, h⟩
    | false => ⟨.nilp, rfl⟩, ())
theorem litFn_ok {f : Nat} {tab : List (List V × V)} {ev : Unit → Nat → T (AEnd × Hp)} (at_ : ∀ x a, EvAt f ((litFn0 f tab).encA a) (hpL 6 1000000 []) (ev x a))
    (run : ∀ i, i < tab.length → (litFn f tab).pre () i = true → (litFn0 f tab).evM ev () i = some ((litFn f tab).mod () i)) : (litFn f tab).OK ev where
  at_ := at_
  len _ := rfl
  decS xs a h hok ρ l hl := by
    obtain ⟨_, p, h2, h3⟩ := findTold_some h
    have e : tabAt tab a = p := by unfold tabAt; rw [Nat.sub_zero] at h2; rw [h2]; rfl
    show VRs ρ (match flats (tabAt tab a).1 with
      | true => (tabAt tab a).1
      | false => []) l
    have hok : flats (tabAt tab a).1 = true := hok
    rw [hok, e, ← h3]
    exact hl
  flatA a := by
    show flats (match flats (tabAt tab a).1 with
      | true => (tabAt tab a).1
      | false => []) = true
    cases h : flats (tabAt tab a).1 with
    | true => exact h
    | false => rfl
  flatE a := a.2
  decVS v a h _ ρ x hx := by
    simp only [litFn, litFn0] at h
    split at h <;> try contradiction
    injection h with h; subst h
    exact plainV_sound hx
  decBS cs x h _ := by
    cases cs with
    | nil => exact ⟨rfl, fun i c d hc => by simp at hc⟩
    | cons => cases h
  run x a _ _ hp := by
    have h : a < tab.length := by
      simp only [litFn] at hp
      split at hp
      · have := Nat.le_of_ble_eq_true hp; omega
      · cases hp
    exact run a h hp
end Go.Proofs.YtlmacdfbdhpljaaGreatDoor
