/- Own text: data of functions by kinds; functions of a scanner. -/
import Derived.Test.YtlmacdfbdhpljaaGreatDoorSl
namespace Go.Ev
open Go.Ev.Tr
/-! ### kinds without a heap -/
def decK0 : KS → V → Option SV
  | .i k _ _, .int k' i => match decide (k = k') with
    | true => some (.i i.n)
    | false => none
  | .j k lo hi, .int k' i => match decide (k = k') && ile lo i.lo && ile i.hi hi with
    | true => some (.i i.n)
    | false => none
  | .b, .bool b => some (.b b)
  | .b, .sbool b => some (.b b)
  | .s, .str l => some (.s (l.map byteOf))
  | .s, .ssym l => some (.s l)
  | .s, .deep (.str l) => some (.s l)
  | .c, .str [i] => match ile 0 i.lo && ile i.hi 127 with
    | true => some (.i i.n)
    | false => none
  | .d, v => match deepC v with
    | some d => some (.d d)
    | none => none
  | .v, v => match V.flat v with
    | true => some (.v v)
    | false => none
  | _, _ => none
theorem encK0_sound {K : KS} {v : V} {a : SV} {x : Value} {ρ : Ren} (h : decK0 K v = some a) (hok : okK K a = true) (hx : VR ρ v x) : (encK K a).flat = true ∧ VR ρ (encK K a) x := by
  unfold decK0 at h
  split at h
  · split at h <;> try contradiction
    rename_i hk
    have hk := of_decide_eq_true hk
    injection h with h; subst h; subst hk
    simp only [okK, Bool.and_eq_true, decide_eq_true_eq] at hok
    obtain ⟨m, rfl, hm⟩ := hx
    refine ⟨rfl, m, rfl, hm.1, ?_, ?_⟩
    · have := hm.1; simp only at *; omega
    · have := hm.1; simp only at *; omega
  · split at h <;> try contradiction
    rename_i hk
    simp only [Bool.and_eq_true, decide_eq_true_eq, ile_iff] at hk
    obtain ⟨⟨hk, k1⟩, k2⟩ := hk
    injection h with h; subst h; subst hk
    obtain ⟨m, rfl, hm⟩ := hx
    refine ⟨rfl, m, rfl, hm.1, ?_, ?_⟩
    · have := hm.2; simp only at *; omega
    · have := hm.2; simp only at *; omega
  · injection h with h; subst h; exact ⟨rfl, hx⟩
  · injection h with h; subst h; exact ⟨rfl, hx⟩
  · injection h with h; subst h
    simp only [okK, decide_eq_true_eq] at hok
    exact ⟨rfl, hx.1, hok⟩
  · injection h with h; subst h; exact ⟨rfl, hx⟩
  · injection h with h; subst h
    simp only [okK, decide_eq_true_eq] at hok
    refine ⟨rfl, ?_, hok⟩
    have hx : FR ρ.H (.str _) x := hx
    simp only [FR] at hx; exact hx.1
  · split at h <;> try contradiction
    rename_i hk
    simp only [Bool.and_eq_true, ile_iff] at hk
    injection h with h; subst h
    obtain ⟨rfl, hb⟩ := hx
    refine ⟨rfl, rfl, ?_⟩
    intro j hj
    have e := List.mem_singleton.1 hj
    subst e
    have := hb _ (List.mem_singleton.2 rfl)
    simp only
    omega
  · split at h <;> try contradiction
    rename_i d hd
    injection h with h; subst h
    exact ⟨rfl, deepC_sound (fun _ _ h => h) hd hx⟩
  · split at h <;> try contradiction
    rename_i hl
    injection h with h; subst h
    exact ⟨hl, hx⟩
  · cases h
def decC0 : List KS → List V → Option (List SV)
  | [], [] => some []
  | K :: Ks, v :: vs => match decK0 K v with
    | some a => match decC0 Ks vs with
      | some us => some (a :: us)
      | none => none
    | none => none
  | _, _ => none
theorem encC0_sound {ρ : Ren} : ∀ {Ks : List KS} {vs : List V} {us : List SV} {l : List Value}, decC0 Ks vs = some us → okCs Ks us = true → VRs ρ vs l → flats (encCs Ks us) = true ∧ VRs ρ (encCs Ks us) l
  | [], [], us, l, h, _, hv => by injection h with h; subst h; exact ⟨rfl, hv⟩
  | [], _ :: _, _, _, h, _, _ => by cases h
  | _ :: _, [], _, _, h, _, _ => by cases h
  | K :: Ks, v :: vs, us, l, h, hok, ⟨x, xs, h1, h2, h3⟩ => by
    unfold decC0 at h
    split at h <;> try contradiction
    rename_i a ha
    split at h <;> try contradiction
    rename_i us2 has
    injection h with h; subst h
    simp only [okCs, Bool.and_eq_true] at hok
    obtain ⟨g1, g2⟩ := encK0_sound ha hok.1 h2
    obtain ⟨g3, g4⟩ := encC0_sound has hok.2 h3
    refine ⟨?_, x, xs, h1, g2, g4⟩
    simp only [encCs, flats, Bool.and_eq_true]
    exact ⟨g1, g3⟩
def decBl (Ks : List KS) : Blk → Option (List SV)
  | .cells cs => decC0 Ks cs
  | _ => none
def decBl0 : List (List KS) → List Blk → Option (List (List SV))
  | [], [] => some []
  | Ks :: r, b :: bs => match decBl Ks b with
    | some us => match decBl0 r bs with
      | some q => some (us :: q)
      | none => none
    | none => none
  | _, _ => none
def encBl0 : List (List KS) → List (List SV) → List Blk
  | Ks :: r, us :: q => .cells (encCs Ks us) :: encBl0 r q
  | _, _ => []
def okBl0 : List (List KS) → List (List SV) → Bool
  | Ks :: r, us :: q => okCs Ks us && okBl0 r q
  | _, _ => true
theorem encBl0_sound : ∀ {Ks : List (List KS)} {cs : List Blk} {q : List (List SV)}, decBl0 Ks cs = some q → okBl0 Ks q = true → cs.length = Ks.length ∧ q.length = Ks.length ∧ ∀ (i : Nat) c d, cs[i]? = some c → (encBl0 Ks q)[i]? = some d → ∀ (ρ : Ren) tot o, BR ρ tot c o → BR ρ tot d o
  | [], [], q, h, _ => by
    injection h with h; subst h
    refine ⟨rfl, rfl, fun i c d hc => ?_⟩
    simp at hc
  | [], _ :: _, _, h, _ => by cases h
  | _ :: _, [], _, h, _ => by cases h
  | Ks :: r, b :: bs, q, h, hok => by
    unfold decBl0 at h
    split at h <;> try contradiction
    rename_i us has
    split at h <;> try contradiction
    rename_i q' hq
    injection h with h; subst h
    simp only [okBl0, Bool.and_eq_true] at hok
    obtain ⟨g1, g2, g3⟩ := encBl0_sound hq hok.2
    refine ⟨by simp [g1], by simp [g2], fun i c d hc hd => ?_⟩
    cases i with
    | zero =>
      simp only [List.getElem?_cons_zero, Option.some.injEq] at hc
      subst hc
      simp only [encBl0, List.getElem?_cons_zero, Option.some.injEq] at hd
      subst hd
      unfold decBl at has
      split at has <;> try contradiction
      rintro ρ tot o ⟨l, t, fz, rfl, h2, h3⟩
      exact ⟨l, t, fz, rfl, (encC0_sound has hok.1 h2).2, h3⟩
    | succ i => exact g3 i c d (by simpa using hc) (by simpa [encBl0] using hd)
/-! ### data of a type -/
structure Cod (α : Type) where
  ks : List KS
  cn : α → List SV
  par : List SV → Option α
  h : ∀ l a, par l = some a → l = cn a
  flat : ∀ a, flats (encCs ks (cn a)) = true
theorem parU {l : List SV} {a : Unit} (h : (match l with
  | [] => some ()
  | _ => none) = some a) : l = [] := by
  cases l with
  | nil => rfl
  | cons => cases h
def cUnit : Cod Unit := ⟨[], fun _ => [], fun l => match l with
  | [] => some ()
  | _ => none, fun _ _ h => parU h, fun _ => rfl⟩
/-- One value. -/
def cOne {α : Type} (k : KS) (f : α → SV) (g : SV → Option α) (hg : ∀ u a, g u = some a → u = f a) (hf : ∀ a, (encK k (f a)).flat = true) : Cod α where
  ks := [k]
  cn a := [f a]
  par l := match l with
    | [u] => g u
    | _ => none
  h l a h := by
    split at h
    · rw [hg _ _ h]
    · cases h
  flat a := by simp only [encCs, flats, Bool.and_true]; exact hf a
/-- One value, and more behind it. -/
def cCons {α β : Type} (k : KS) (f : α → SV) (g : SV → Option α) (hg : ∀ u a, g u = some a → u = f a) (hf : ∀ a, (encK k (f a)).flat = true) (c : Cod β) : Cod (α × β) where
  ks := k :: c.ks
  cn p := f p.1 :: c.cn p.2
  par l := match l with
    | u :: us => match g u with
      | some a => match c.par us with
        | some b => some (a, b)
        | none => none
      | none => none
    | [] => none
  h l p h := by
    split at h <;> try contradiction
    rename_i u us
    split at h <;> try contradiction
    rename_i a ha
    split at h <;> try contradiction
    rename_i b hb
    injection h with h; subst h
    simp only
    rw [hg u a ha, c.h us b hb]
  flat p := by
    simp only [encCs, flats, Bool.and_eq_true]
    exact ⟨hf _, c.flat _⟩
def getI : SV → Option Int
  | .i n => some n
  | _ => none
theorem getI_eq (u : SV) (a : Int) (h : getI u = some a) : u = .i a := by
  cases u <;> simp only [getI, reduceCtorEq, Option.some.injEq] at h
  rw [h]
def getB : SV → Option Bool
  | .b n => some n
  | _ => none
theorem getB_eq (u : SV) (a : Bool) (h : getB u = some a) : u = .b a := by
  cases u <;> simp only [getB, reduceCtorEq, Option.some.injEq] at h
  rw [h]
def getS : SV → Option (List UInt8)
  | .s n => some n
  | _ => none
theorem getS_eq (u : SV) (a : List UInt8) (h : getS u = some a) : u = .s a := by
  cases u <;> simp only [getS, reduceCtorEq, Option.some.injEq] at h
  rw [h]
def getD' : SV → Option Dv
  | .d n => some n
  | _ => none
theorem getD_eq (u : SV) (a : Dv) (h : getD' u = some a) : u = .d a := by
  cases u <;> simp only [getD', reduceCtorEq, Option.some.injEq] at h
  rw [h]
def cInt (k : IntKind) (lo hi : Int) : Cod Int := cOne (.i k lo hi) .i getI getI_eq fun _ => rfl
/-- A number whose bounds are plain. -/
def cInj (k : IntKind) (lo hi : Int) : Cod Int := cOne (.j k lo hi) .i getI getI_eq fun _ => rfl
def cBool : Cod Bool := cOne .b .b getB getB_eq fun _ => rfl
def cStr : Cod (List UInt8) := cOne .s .s getS getS_eq fun _ => rfl
def cDv : Cod Dv := cOne .d .d getD' getD_eq fun _ => rfl
def cIntC {β : Type} (k : IntKind) (lo hi : Int) (c : Cod β) : Cod (Int × β) := cCons (.i k lo hi) .i getI getI_eq (fun _ => rfl) c
def cInjC {β : Type} (k : IntKind) (lo hi : Int) (c : Cod β) : Cod (Int × β) := cCons (.j k lo hi) .i getI getI_eq (fun _ => rfl) c
def cChr : Cod Int := cOne .c .i getI getI_eq fun _ => rfl
def cBoolC {β : Type} (c : Cod β) : Cod (Bool × β) := cCons .b .b getB getB_eq (fun _ => rfl) c
def cStrC {β : Type} (c : Cod β) : Cod (List UInt8 × β) := cCons .s .s getS getS_eq (fun _ => rfl) c
def cDvC {β : Type} (c : Cod β) : Cod (Dv × β) := cCons .d .d getD' getD_eq (fun _ => rfl) c
/-- What a function answers: one value, or some. -/
def decR (ks : List KS) (v : V) : Option (List SV) := match ks with
  | [_] => decC0 ks [v]
  | _ => match v with
    | .tup vs => decC0 ks vs
    | _ => none
/-- Data in blocks. -/
structure BCod (σ : Type) where
  ks : List (List KS)
  cn : σ → List (List SV)
  par : List (List SV) → Option σ
  ok : σ → Bool
  h : ∀ l a, par l = some a → l = cn a
  hok : ∀ a, ok a = true → okBl0 ks (cn a) = true
  len : ∀ a, (encBl0 ks (cn a)).length = ks.length
  flat : ∀ a, ok a = true → ∀ b ∈ encBl0 ks (cn a), b.flat = true
end Go.Ev
namespace Go.Proofs.YtlmacdfbdhpljaaGreatDoor
open Go.Ev Go.Ev.Tr Go.Proofs
def mkFn {σ A α : Type} (f : Nat) (bc : BCod σ) (ac : Cod A) (rc : Cod α) (dflt : Bool × α × σ) : SFn0 σ A α where
  f := f
  k := bc.ks.length
  decB cs := match decBl0 bc.ks cs with
    | some l => bc.par l
    | none => none
  encB x := encBl0 bc.ks (bc.cn x)
  inB := bc.ok
  okA a := okCs ac.ks (ac.cn a)
  okR a := okCs rc.ks (rc.cn a)
  dec vs := match decC0 ac.ks vs with
    | some l => ac.par l
    | none => none
  encA a := encCs ac.ks (ac.cn a)
  decV v := match decR rc.ks v with
    | some l => rc.par l
    | none => none
  enc a := resOne (encCs rc.ks (rc.cn a))
  dflt := dflt
theorem resOne_flat {l : List V} (h : flats l = true) : (resOne l).flat = true := by
  unfold resOne
  split
  · simp only [flats, Bool.and_true] at h; exact h
  · exact h
theorem decC0_len : ∀ {Ks : List KS} {vs : List V} {us : List SV}, decC0 Ks vs = some us → us.length = Ks.length
  | [], [], us, h => by injection h with h; subst h; rfl
  | [], _ :: _, _, h => by cases h
  | _ :: _, [], _, h => by cases h
  | K :: Ks, v :: vs, us, h => by
    unfold decC0 at h
    split at h <;> try contradiction
    split at h <;> try contradiction
    rename_i q hq
    injection h with h; subst h
    simp [decC0_len hq]
theorem decR_sound {ks : List KS} {v : V} {us : List SV} {ρ : Ren} {x : Value} (h : decR ks v = some us) (hok : okCs ks us = true) (hx : VR ρ v x) : VR ρ (resOne (encCs ks us)) x := by
  unfold decR at h
  split at h
  · have hl := decC0_len h
    have hv := (encC0_sound h hok (l := [x]) ⟨x, [], rfl, hx, rfl⟩).2
    match us, hl with
    | [u], _ =>
      obtain ⟨y, ys, e, g1, _⟩ := hv
      injection e with e1 e2; subst e1
      exact g1
  · rename_i hks
    split at h <;> try contradiction
    obtain ⟨l, rfl, hl⟩ := hx
    have hv := (encC0_sound h hok hl).2
    have hlen := decC0_len h
    have e : resOne (encCs ks us) = .tup (encCs ks us) := by
      match ks, us, hlen with
      | [], [], _ => rfl
      | [K], _, _ => exact absurd rfl (hks K)
      | K1 :: K2 :: r, u1 :: u2 :: q, _ => rfl
    rw [e]
    exact ⟨l, rfl, hv⟩
theorem mkFn_ok {σ A α : Type} {f : Nat} {bc : BCod σ} {ac : Cod A} {rc : Cod α} {dflt : Bool × α × σ} {pre : σ → A → Bool} {m : σ → A → Bool × α × σ} {ev : σ → A → T (AEnd × Hp)}
    (at_ : ∀ x a, EvAt f (ptrArgs 6 bc.ks.length ++ encCs ac.ks (ac.cn a)) (hpL 6 1000000 (encBl0 bc.ks (bc.cn x))) (ev x a))
    (run : ∀ x a, bc.ok x = true → okCs ac.ks (ac.cn a) = true → pre x a = true → (mkFn f bc ac rc dflt).evM ev x a = some (m x a)) : (SFn.mk (mkFn f bc ac rc dflt) pre m).OK ev where
  at_ := at_
  len := bc.len
  decS xs a h hok ρ l hl := by
    simp only [mkFn] at h
    split at h <;> try contradiction
    rename_i us hus
    have e := ac.h _ _ h
    subst e
    exact (encC0_sound hus hok hl).2
  flatA a := ac.flat a
  flatE a := resOne_flat (rc.flat a)
  decVS v a h hok ρ x hx := by
    simp only [mkFn] at h
    split at h <;> try contradiction
    rename_i us hus
    have e := rc.h _ _ h
    subst e
    exact decR_sound hus hok hx
  decBS cs x h hin := by
    simp only [mkFn] at h
    split at h <;> try contradiction
    rename_i q hq
    have e := bc.h _ _ h
    subst e
    obtain ⟨g1, g2, g3⟩ := encBl0_sound hq (bc.hok x hin)
    exact ⟨g1, fun i c d hc hd => ⟨bc.flat x hin d (List.mem_of_getElem? hd), g3 i c d hc hd⟩⟩
  run := run
end Go.Proofs.YtlmacdfbdhpljaaGreatDoor
