/- Own text: data of functions by kinds; functions of a scanner. -/
import Derived.Test.YtlmacdfbdhpljaaGreatDoorSl
namespace Go.Ev
open Go.Ev.Tr
/-! ### kinds without a heap -/
def decK0 : KS → V → Option SV
  | .i k _ _, .int k' i => match decide (k = k') with
    | true => some (.i i.n)
    | false => none
  | .j k lo hi, .int k' i => match decide (k = k') && ile lo i.lo && ile i.hi hi with
    | true => some (.i i.n)
    | false => none
  | .b, .bool b => some (.b b)
  | .b, .sbool b => some (.b b)
  | .s, .str l => some (.s (l.map byteOf))
  | .s, .ssym l => some (.s l)
  | .s, .deep (.str l) => some (.s l)
  | .c, .str [i] => match ile 0 i.lo && ile i.hi 127 with
    | true => some (.i i.n)
    | false => none
  | .d, v => match deepC v with
    | some d => some (.d d)
    | none => none
  | .v, v => match V.flat v with
    | true => some (.v v)
    | false => none
  | _, _ => none
theorem encK0_sound {K : KS} {v : V} {a : SV} {x : Value} {ρ : Ren} (h : decK0 K v = some a) (hok : okK K a = true) (hx : VR ρ v x) : (encK K a).flat = true ∧ VR ρ (encK K a) x := by
  unfold decK0 at h
  split at h
  · split at h <;> try contradiction
    rename_i hk
    have hk := of_decide_eq_true hk
    injection h with h; subst h; subst hk
    simp only [okK, Bool.and_eq_true, decide_eq_true_eq] at hok
    obtain ⟨m, rfl, hm⟩ := hx
    refine ⟨rfl, m, rfl, hm.1, ?_, ?_⟩
    · have := hm.1; simp only at *; omega
    · have := hm.1; simp only at *; omega
  · split at h <;> try contradiction
    rename_i hk
    simp only [Bool.and_eq_true, decide_eq_true_eq, ile_iff] at hk
    obtain ⟨⟨hk, k1⟩, k2⟩ := hk
    injection h with h; subst h; subst hk
    obtain ⟨m, rfl, hm⟩ := hx
    refine ⟨rfl, m, rfl, hm.1, ?_, ?_⟩
    · have := hm.2; simp only at *; omega
    · have := hm.2; simp only at *; omega
  · injection h with h; subst h; exact ⟨rfl, hx⟩
  · injection h with h; subst h; exact ⟨rfl, hx⟩
  · injection h with h; subst h
    simp only [okK, decide_eq_true_eq] at hok
    exact ⟨rfl, hx.1, hok⟩
  · injection h with h; subst h; exact ⟨rfl, hx⟩
  · injection h with h; subst h
    simp only [okK, decide_eq_true_eq] at hok
    refine ⟨rfl, ?_, hok⟩
    have hx : FR ρ.H (.str _) x := hx
    simp only [FR] at hx; exact hx.1
  · split at h <;> try contradiction
    rename_i hk
    simp only [Bool.and_eq_true, ile_iff] at hk
    injection h with h; subst h
    obtain ⟨rfl, hb⟩ := hx
    refine ⟨rfl, rfl, ?_⟩
    intro j hj
    have e := List.mem_singleton.1 hj
    subst e
    have := hb _ (List.mem_singleton.2 rfl)
    simp only
    omega
  · split at h <;> try contradiction
    rename_i d hd
    injection h with h; subst h
    exact ⟨rfl, deepC_sound (fun _ _ h => h) hd hx⟩
  · split at h <;> try contradiction
    rename_i hl
    injection h with h; subst h
    exact ⟨hl, hx⟩
  · cases h
def decC0 : List KS → List V → Option (List SV)
  | [], [] => some []
  | K :: Ks, v :: vs => match decK0 K v with
    | some a => match decC0 Ks vs with
      | some us => some (a :: us)
      | none => none
    | none => none
  | _, _ => none
theorem encC0_sound {ρ : Ren} : ∀ {Ks : List KS} {vs : List V} {us : List SV} {l : List Value}, decC0 Ks vs = some us → okCs Ks us = true → VRs ρ vs l → flats (encCs Ks us) = true ∧ VRs ρ (encCs Ks us) l
  | [], [], us, l, h, _, hv => by injection h with h; subst h; exact ⟨rfl, hv⟩
  | [], _ :: _, _, _, h, _, _ => by cases h
  | _ :: _, [], _, _, h, _, _ => by cases h
  | K :: Ks, v :: vs, us, l, h, hok, ⟨x, xs, h1, h2, h3⟩ => by
    unfold decC0 at h
    split at h <;> try contradiction
    rename_i a ha
    split at h <;> try contradiction
    rename_i us2 has
    injection h with h; subst h
    simp only [okCs, Bool.and_eq_true] at hok
    obtain ⟨g1, g2⟩ := encK0_sound ha hok.1 h2
    obtain ⟨g3, g4⟩ := encC0_sound has hok.2 h3
    refine ⟨?_, x, xs, h1, g2, g4⟩
    simp only [encCs, flats, Bool.and_eq_true]
    exact ⟨g1, g3⟩
def decBl (Ks : List KS) : Blk → Option (List SV)
  | .cells cs => decC0 Ks cs
  | _ => none
def decBl0 : List (List KS) → List Blk → Option (List (List SV))
  | [], [] => some []
  | Ks :: r, b :: bs => match decBl Ks b with
    | some us => match decBl0 r bs with
      | some q => some (us :: q)
      | none => none
    | none => none
  | _, _ => none
def encBl0 : List (List KS) → List (List SV) → List Blk
  | Ks :: r, us :: q => .cells (encCs Ks us) :: encBl0 r q
  | _, _ => []
def okBl0 : List (List KS) → List (List SV) → Bool
  | Ks :: r, us :: q => okCs Ks us && okBl0 r q
  | _, _ => true
theorem encBl0_sound : ∀ {Ks : List (List KS)} {cs : List Blk} {q : List (List SV)}, decBl0 Ks cs = some q → okBl0 Ks q = true → cs.length = Ks.length ∧ q.length = Ks.length ∧ ∀ (i : Nat) c d, cs[i]? = some c → (encBl0 Ks q)[i]? = some d → ∀ (ρ : Ren) tot o, BR ρ tot c o → BR ρ tot d o
  | [], [], q, h, _ => by
    injection h with h; subst h
    refine ⟨rfl, rfl, fun i c d hc => ?_⟩
    simp at hc
  | [], _ :: _, _, h, _ => by cases h
  | _ :: _, [], _, h, _ => by cases h
  | Ks :: r, b :: bs, q, h, hok => by
    unfold decBl0 at h
    split at h <;> try contradiction
    rename_i us has
    split at h <;> try contradiction
    rename_i q' hq
    injection h with h; subst h
    simp only [okBl0, Bool.and_eq_true] at hok
    obtain ⟨g1, g2, g3⟩ := encBl0_sound hq hok.2
    refine ⟨by simp [g1], by simp [g2], fun i c d hc hd => ?_⟩
    cases i with
    | zero =>
      simp only [List.getElem?_cons_zero, Option.some.injEq] at hc
      subst hc
      simp only [encBl0, List.getElem?_cons_zero, Option.some.injEq] at hd
      subst hd
      unfold decBl at has
      split at has <;> try contradiction
      rintro ρ tot o ⟨l, t, fz, rfl, h2, h3⟩
      exact ⟨l, t, fz, rfl, (encC0_sound has hok.1 h2).2, h3⟩
    | succ i => exact g3 i c d (by simpa using hc) (by simpa [encBl0] using hd)
/-! ### data of a type -/
structure Cod (α : Type) where
  ks : List KS
  cn : α → List SV
  par : List SV → Option α
  h : ∀ l a, par l = some a → l = cn a
  flat : ∀ a, flats (encCs ks (cn a)) = true
theorem parU {l : List SV} {a : Unit} (h : (match l with
  | [] => some ()
  | _ => none) = some a) : l = [] := by
  cases l with
  | nil => rfl
  | cons => cases h
def cUnit : Cod Unit := ⟨[], fun _ => [], fun l => match l with
  | [] => some ()
  | _ => none, fun _ _ h => parU h, fun _ => rfl⟩
/-- One value. -/
def cOne {α : Type} (k : KS) (f : α → SV) (g : SV → Option α) (hg : ∀ u a, g u = some a → u = f a) (hf : ∀ a, (encK k (f a)).flat = true) : Cod α where
  ks := [k]
  cn a := [f a]
  par l := match l with
    | [u] => g u
    | _ => none
  h l a h := by
    split at h
    · rw [hg _ _ h]
    · cases h
  flat a := by simp only [encCs, flats, Bool.and_true]; exact hf a
/-- One value, and more behind it. -/
def cCons {α β : Type} (k : KS) (f : α → SV) (g : SV → Option α) (hg : ∀ u a, g u = some a → u = f a) (hf : ∀ a, (encK k (f a)).flat = true) (c : Cod β) : Cod (α × β) where
  ks := k :: c.ks
  cn p := f p.1 :: c.cn p.2
  par l := match l with
    | u :: us => match g u with
      | some a => match c.par us with
        | some b => some (a, b)
        | none => none
      | none => none
    | [] => none
  h l p h := by
    split at h <;> try contradiction
    rename_i u us
    split at h <;> try contradiction
    rename_i a ha
    split at h <;> try contradiction
    rename_i b hb
    injection h with h; subst h
    simp only
    rw [hg u a ha, c.h us b hb]
  flat p := by
    simp only [encCs, flats, Bool.and_eq_true]
    exact ⟨hf _, c.flat _⟩
def getI : SV → Option Int
  | .i n => some n
  | _ => none
theorem getI_eq (u : SV) (a : Int) (h : getI u = some a) : u = .i a := by
  cases u <;> simp only [getI, reduceCtorEq, Option.some.injEq] at h
  rw [h]
def getB : SV → Option Bool
  | .b n => some n
  | _ => none
theorem getB_eq (u : SV) (a : Bool) (h : getB u = some a) : u = .b a := by
  cases u <;> simp only [getB, reduceCtorEq, Option.some.injEq] at h
  rw [h]
def getS : SV → Option (List UInt8)
  | .s n => some n
  | _ => none
theorem getS_eq (u : SV) (a : List UInt8) (h : getS u = some a) : u = .s a := by
  cases u <;> simp only [getS, reduceCtorEq, Option.some.injEq] at h
  rw [h]
def getD' : SV → Option Dv
  | .d n => some n
  | _ => none
theorem getD_eq (u : SV) (a : Dv) (h : getD' u = some a) : u = .d a := by
  cases u <;> simp only [getD', reduceCtorEq, Option.some.injEq] at h
  rw [h]
def cInt (k : IntKind) (lo hi : Int) : Cod Int := cOne (.i k lo hi) .i getI getI_eq fun _ => rfl
/-- A number whose bounds are plain. -/
def cInj (k : IntKind) (lo hi : Int) : Cod Int := cOne (.j k lo hi) .i getI getI_eq fun _ => rfl
def cBool : Cod Bool := cOne .b .b getB getB_eq fun _ => rfl
def cStr : Cod (List UInt8) := cOne .s .s getS getS_eq fun _ => rfl
def cDv : Cod Dv := cOne .d .d getD' getD_eq fun _ => rfl
def cIntC {β : Type} (k : IntKind) (lo hi : Int) (c : Cod β) : Cod (Int × β) := cCons (.i k lo hi) .i getI getI_eq (fun _ => rfl) c
def cInjC {β : Type} (k : IntKind) (lo hi : Int) (c : Cod β) : Cod (Int × β) := cCons (.j k lo hi) .i getI getI_eq (fun _ => rfl) c
def cChr : Cod Int := cOne .c .i getI getI_eq fun _ => rfl
def cBoolC {β : Type} (c : Cod β) : Cod (Bool × β) := cCons .b .b getB getB_eq (fun _ => rfl) c
def cStrC {β : Type} (c : Cod β) : Cod (List UInt8 × β) := cCons .s .s getS getS_eq (fun _ => rfl) c
def cDvC {β : Type} (c : Cod β) : Cod (Dv × β) := cCons .d .d getD' getD_eq (fun _ => rfl) c
/-- What a function answers: one value, or some. -/
def decR (ks : List KS) (v : V) : Option (List SV) := match ks with
  | [_] => decC0 ks [v]
  | _ => match v with
    | .tup vs => decC0 ks vs
    | _ => none
/-- Data in blocks. -/
structure BCod (σ : Type) where
  ks : List (List KS)
  cn : σ → List (List SV)
  par : List (List SV) → Option σ
  ok : σ → Bool
  h : ∀ l a, par l = some a → l = cn a
  hok : ∀ a, ok a = true → okBl0 ks (cn a) = true
  len : ∀ a, (encBl0 ks (cn a)).length = ks.length
  flat : ∀ a, ok a = true → ∀ b ∈ encBl0 ks (cn a), b.flat = true
end Go.Ev
namespace Go.Proofs.YtlmacdfbdhpljaaGreatDoor
open Go.Ev Go.Ev.Tr Go.Proofs
def mkFn {σ A α : Type} (f : Nat) (bc : BCod σ) (ac : Cod A) (rc : Cod α) (dflt : Bool × α × σ) : SFn0 σ A α where
  f := f
  k := bc.ks.length
  decB cs := match decBl0 bc.ks cs with
    | some l => bc.par l
    | none => none
  encB x := encBl0 bc.ks (bc.cn x)
  inB := bc.ok
  okA a := okCs ac.ks (ac.cn a)
  okR a := okCs rc.ks (rc.cn a)
  dec vs := match decC0 ac.ks vs with
    | some l => ac.par l
    | none => none
  encA a := encCs ac.ks (ac.cn a)
  decV v := match decR rc.ks v with
    | some l => rc.par l
    | none => none
  enc a := resOne (encCs rc.ks (rc.cn a))
  dflt := dflt
theorem resOne_flat {l : List V} (h : flats l = true) : (resOne l).flat = true := by
  unfold resOne
  split
  · simp only [flats, Bool.and_true] at h; exact h
  · exact h
theorem decC0_len : ∀ {Ks : List KS} {vs : List V} {us : List SV}, decC0 Ks vs = some us → us.length = Ks.length
  | [], [], us, h => by injection h with h; subst h; rfl
  | [], _ :: _, _, h => by cases h
  | _ :: _, [], _, h => by cases h
  | K :: Ks, v :: vs, us, h => by
    unfold decC0 at h
    split at h <;> try contradiction
    split at h <;> try contradiction
    rename_i q hq
    injection h with h; subst h
    simp [decC0_len hq]
theorem decR_sound {ks : List KS} {v : V} {us : List SV} {ρ : Ren} {x : Value} (h : decR ks v = some us) (hok : okCs ks us = true) (hx : VR ρ v x) : VR ρ (resOne (encCs ks us)) x := by
  unfold decR at h
  split at h
  · have hl := decC0_len h
    have hv := (encC0_sound h hok (l := [x]) ⟨x, [], rfl, hx, rfl⟩).2
    match us, hl with
    | [u], _ =>
      obtain ⟨y, ys, e, g1, _⟩ := hv
      injection e with e1 e2; subst e1
      exact g1
  · rename_i hks
    split at h <;> try contradiction
    obtain ⟨l, rfl, hl⟩ := hx
    have hv := (encC0_sound h hok hl).2
    have hlen := decC0_len h
    have e : resOne (encCs ks us) = .tup (encCs ks us) := by
      match ks, us, hlen with
      | [], [], _ => rfl
      | [K], _, _ => exact absurd rfl (hks K)
      | K1 :: K2 :: r, u1 :: u2 :: q, _ => rfl
    rw [e]
    exact ⟨l, rfl, hv⟩
theorem mkFn_ok {σ A α : Type} {f : Nat} {bc : BCod σ} {ac : Cod A} {rc : Cod α} {dflt : Bool × α × σ} {pre : σ → A → Bool} {m : σ → A → Bool × α × σ} {ev : σ → A → T (AEnd × Hp)}
    (at_ : ∀ x a, EvAt f (ptrArgs 6 bc.ks.length ++ encCs ac.ks (ac.cn a)) (hpL 6 1000000 (encBl0 bc.ks (bc.cn x))) (ev x a))
    (run : ∀ x a, bc.ok x = true → okCs ac.ks (ac.cn a) = true → pre x a = true → (mkFn f bc ac rc dflt).evM ev x a = some (m x a)) : (SFn.mk (mkFn f bc ac rc dflt) pre m).OK ev where
  at_ := at_
  len := bc.len
  decS xs a h hok ρ l hl := by
    simp only [mkFn] at h
    split at h <;> try contradiction
    rename_i us hus
    have e := ac.h _ _ h
    subst e
    exact (encC0_sound hus hok hl).2
  flatA a := ac.flat a
  flatE a := resOne_flat (rc.flat a)
  decVS v a h hok ρ x hx := by
    simp only [mkFn] at h
    split at h <;> try contradiction
    rename_i us hus
    have e := rc.h _ _ h
    subst e
    exact decR_sound hus hok hx
  decBS cs x h hin := by
    simp only [mkFn] at h
    split at h <;> try contradiction
    rename_i q hq
    have e := bc.h _ _ h
    subst e
    obtain ⟨g1, g2, g3⟩ := encBl0_sound hq (bc.hok x hin)
    exact ⟨g1, fun i c d hc hd => ⟨bc.flat x hin d (List.mem_of_getElem? hd), g3 i c d hc hd⟩⟩
  run := run
end Go.Proofs.YtlmacdfbdhpljaaGreatDoor

namespace Go.Proofs.YtlmacdfbdhpljaaGreatDoor
open Go.Ev Go.Ev.Tr Go.Proofs
set_option maxRecDepth 1000000
structure Sc where
  s : List UInt8
  i : Int
  o : Int
  full : Bool
  scope : List UInt8
  lost : Bool
def scKs : List KS := [.s, .i .i64 0 281474976710656, .i .i64 0 32, .b, .s, .b]
def inSc (x : Sc) : Bool := decide (0 ≤ x.i) && (decide (x.i ≤ x.s.length) && (decide (x.s.length ≤ 1099511627776) && (decide (0 ≤ x.o) && (decide (x.o ≤ 32) && decide (x.scope.length ≤ 1099511627776)))))
structure InSc (x : Sc) : Prop where
  i0 : 0 ≤ x.i
  i1 : x.i ≤ x.s.length
  s : x.s.length ≤ 1099511627776
  o0 : 0 ≤ x.o
  o1 : x.o ≤ 32
  scope : x.scope.length ≤ 1099511627776
theorem inSc_iff {x : Sc} : inSc x = true ↔ InSc x := by
  simp only [inSc, Bool.and_eq_true, decide_eq_true_eq]
  exact ⟨fun ⟨a, b, c, d, e, f⟩ => ⟨a, b, c, d, e, f⟩, fun ⟨a, b, c, d, e, f⟩ => ⟨a, b, c, d, e, f⟩⟩
def scCn (x : Sc) : List SV := [.s x.s, .i x.i, .i x.o, .b x.full, .s x.scope, .b x.lost]
def scPar : List SV → Option Sc
  | [.s s, .i i, .i o, .b full, .s scope, .b lost] => some ⟨s, i, o, full, scope, lost⟩
  | _ => none
theorem scPar_eq {l : List SV} {x : Sc} (h : scPar l = some x) : l = scCn x := by
  unfold scPar at h
  split at h
  · injection h with h; subst h; rfl
  · cases h
theorem scOk {x : Sc} (h : inSc x = true) : okCs scKs (scCn x) = true := by
  have h := inSc_iff.1 h
  simp only [scKs, scCn, okCs, okK, Bool.and_eq_true, decide_eq_true_eq, Bool.and_true]
  have := h.i0; have := h.i1; have := h.s; have := h.o0; have := h.o1; have := h.scope

  refine ⟨by omega, ⟨by omega, by omega⟩, ⟨by omega, by omega⟩, trivial, by omega⟩
def scB : BCod Sc where
  ks := [scKs]
  cn x := [scCn x]
  par l := match l with
    | [u] => scPar u
    | _ => none
  ok := inSc
  h l a h := by
    split at h
    · rw [scPar_eq h]
    · cases h
  hok a h := by
    show (okCs scKs (scCn a) && true) = true
    rw [scOk h]; rfl
  len _ := rfl
  flat a _ b hb := by
    have e : b = .cells (encCs scKs (scCn a)) := by simpa [encBl0] using hb
    subst e; rfl
def sc0 : Sc := ⟨[], 0, 0, false, [], false⟩
/-- No blocks. -/
def nilB : BCod Unit where
  ks := []
  cn _ := []
  par l := match l with
    | [] => some ()
    | _ => none
  ok _ := true
  h l a h := by
    split at h
    · rfl
    · cases h
  hok _ _ := rfl
  len _ := rfl
  flat _ _ b hb := by cases hb
/-- The cells of a scanner are within their bounds. -/
def okSc (x : Sc) : Bool := okCs scKs (scCn x)
theorem okSc_of {x : Sc} (h : InSc x) : okSc x = true := scOk (inSc_iff.2 h)
/-- The run of a function without told loops. -/
noncomputable def evOf {σ A α : Type} (call : CallF) (s : SFn0 σ A α) (x : σ) (a : A) : T (AEnd × Hp) := call noRO s.f (ptrArgs 6 s.k ++ s.encA a) (hpL 6 1000000 (s.encB x))
/-- A run, as it is looked at. -/
noncomputable def viewT {σ A α : Type} (s : SFn0 σ A α) (t : T (AEnd × Hp)) : T (Bool × α × σ) := t.bind fun q => match s.view q with
  | some r => .br (s.inB r.2.2 && s.okR r.2.1) (.ret r) .fail
  | none => .fail
noncomputable def bodyOf (f : Nat) : Code := match fns.get f with
  | some fn => match fn.body with
    | some c => c
    | none => .skip
  | none => .skip
noncomputable def fnOf (f : Nat) : Func := (fns.get f).getD default
noncomputable def ntOf (f : Nat) : Nat := (fnOf f).ntmps
/-- The body of a loop. -/
noncomputable def loopOf (f k : Nat) : Code := unLoop ((blocksOf k (bodyOf f)).headD .skip)
/-- The loop k of f is told. -/
def hook1 (k : Nat) (h : St → T (X × St)) (id : Nat) : Option (St → T (X × St)) := match Nat.beq id k with
  | true => some h
  | false => none
/-- A loop's state is the scanner alone, and some temporaries. -/
def scSp (ts : List (Nat × KS)) : LSpec := ⟨(0, .p 6) :: ts, [(6, scKs)], 1000, 1000000⟩
noncomputable def envS (sm : Nat → Option Summ) : Env := { env0 with sm := sm }
theorem envSOK (sm : Nat → Option Summ) : EnvOK Tryz.prog (envS sm) := envOK_of tysOK fnsOK mixedOK
noncomputable def callS (sm : Nat → Option Summ) : CallF := evG (envS sm) 10000 1000
theorem callSOK {sm : Nat → Option Summ} (h : ∀ f s, sm f = some s → SumAt f s) : CallOK Tryz.prog 6 (callS sm) := evG_ok (envSOK sm) h 10000 1000
/-- The run of a function whose loops are told. -/
noncomputable def evHook {σ A α : Type} (sm : Nat → Option Summ) (h : Nat → Option (St → T (X × St))) (s : SFn0 σ A α) (x : σ) (a : A) : T (AEnd × Hp) := bodyF2 (envS sm) 10000 (callS sm) noRO (fnOf s.f) (withHooks h (bodyOf s.f)) (ptrArgs 6 s.k ++ s.encA a) (hpL 6 1000000 (s.encB x))
theorem evHook_at {σ A α : Type} {sm : Nat → Option Summ} (hsm : ∀ f s, sm f = some s → SumAt f s) {h : Nat → Option (St → T (X × St))} {s : SFn0 σ A α} (hf : fns.get s.f = some (fnOf s.f)) (hb : (fnOf s.f).body = some (bodyOf s.f))
    (hh : ∀ id g b, h id = some g → b ∈ blocksOf id (bodyOf s.f) → ∀ w0 F, HookOK Tryz.prog (envS sm) w0 F noRO (ntOf s.f) (.block id b) g) (x : σ) (a : A) : EvAt s.f (ptrArgs 6 s.k ++ s.encA a) (hpL 6 1000000 (s.encB x)) (evHook sm h s x a) := by
  intro r hr w0 F ρ w l hrel hl
  refine ⟨callsAt s.f _ hf _, bodyF2_sound (E := envS sm) (c := withHooks h (bodyOf s.f)) (envSOK sm) (callSOK hsm) ((envSOK sm).fn _ _ hf) (by rw [withHooks_erase]; exact hb) (withHooks_ok _ fun id g b h1 h2 => hh id g b h1 h2 w0 F) hr hrel hl⟩
/-- The loop k of a function, in a state that its data tell. -/
noncomputable def roundS (sm : Nat → Option Summ) (f : Nat) (sp : LSpec) (h : Nat → Option (St → T (X × St))) (k : Nat) (d : SD) : Option (X × SD) := roundT (envS sm) (callS sm) (ntOf f) sp (withHooks h (loopOf f k)) d
theorem hook_ok {sm : Nat → Option Summ} (hsm : ∀ f s, sm f = some s → SumAt f s) {f k : Nat} {sp : LSpec} (hG : 6 ≤ sp.nxt) {σ : Type} {cn : σ → SD} {par : SD → Option σ} {fin : σ → T (LX × σ)} {μ : σ → Nat} (hb : blocksOf k (bodyOf f) = [.loop (loopOf f k)]) (hpar : ∀ d s, par d = some s → d = cn s)
    (step : ∀ s r, (fin s).run = some r → (∃ s', roundS sm f sp (fun _ => none) k (cn s) = some (.normal, cn s') ∧ (fin s').run = some r ∧ μ s' < μ s) ∨ (roundS sm f sp (fun _ => none) k (cn s) = some (.exit k, cn r.2) ∧ r.1 = .nrm) ∨
      (roundS sm f sp (fun _ => none) k (cn s) = some (.ret, cn r.2) ∧ r.1 = .ret) ∨ (∃ v, roundS sm f sp (fun _ => none) k (cn s) = some (.pan v, cn r.2) ∧ v.flat = true ∧ r.1 = .pan v)) :
    ∀ id g b, hook1 k (loopF sp par cn fin) id = some g → b ∈ blocksOf id (bodyOf f) → ∀ w0 F, HookOK Tryz.prog (envS sm) w0 F noRO (ntOf f) (.block id b) g := by
  intro id g b h1 h2 w0 F
  unfold hook1 at h1
  split at h1 <;> try contradiction
  rename_i hid
  have hid := Nat.eq_of_beq_eq_true hid
  subst hid
  injection h1 with h1; subst h1
  rw [hb] at h2
  have e : b = .loop (loopOf f id) := by simpa using h2
  subst e
  have := loopF_ok (envSOK sm) (callSOK hsm) (b := withHooks (fun _ => none) (loopOf f id)) (id := id) (sp := sp) (cn := cn) (par := par) (fin := fin) (μ := μ) (nt := ntOf f) hG (fun w0 F => withHooks_ok _ fun _ _ _ h _ => by cases h) hpar step w0 F
  rw [withHooks_erase] at this
  exact this
end Go.Proofs.YtlmacdfbdhpljaaGreatDoor

namespace Go.Proofs.YtlmacdfbdhpljaaGreatDoor
open Go.Ev Go.Ev.Tr Go.Proofs
set_option maxRecDepth 1000000
theorem run_at {σ A α : Type} {call : CallF} (hc : CallOK Tryz.prog 6 call) {f : Nat} {bc : BCod σ} {ac : Cod A} {rc : Cod α} {dflt : Bool × α × σ} (x : σ) (a : A) : EvAt f (ptrArgs 6 bc.ks.length ++ encCs ac.ks (ac.cn a)) (hpL 6 1000000 (encBl0 bc.ks (bc.cn x))) (evOf call (mkFn f bc ac rc dflt) x a) := evAt_call hc _ _ _
/-- A function without told loops. -/
theorem fn_at {σ A α : Type} {call : CallF} (hc : CallOK Tryz.prog 6 call) {f : Nat} {bc : BCod σ} {ac : Cod A} {rc : Cod α} {dflt : Bool × α × σ} {pre : σ → A → Bool} {m : σ → A → Bool × α × σ}
    (run : ∀ x a, bc.ok x = true → okCs ac.ks (ac.cn a) = true → pre x a = true → (mkFn f bc ac rc dflt).evM (evOf call (mkFn f bc ac rc dflt)) x a = some (m x a)) : SumAt f (SFn.mk (mkFn f bc ac rc dflt) pre m).sum :=
  SFn.sound (mkFn_ok (fun x a => run_at hc x a) run)
theorem okI {k : IntKind} {lo hi n : Int} (h : okCs (cInt k lo hi).ks ((cInt k lo hi).cn n) = true) : lo ≤ n ∧ n ≤ hi := by
  simp only [cInt, cOne, okCs, okK, Bool.and_true, Bool.and_eq_true, decide_eq_true_eq] at h
  exact h
/-! ### letters, digits -/
def letter0 : SFn0 Unit Int Bool := mkFn 161 nilB (cInj .u8 0 255) cBool (false, false, ())
def letterB (c : Int) : Bool := (decide (97 ≤ c) && decide (c ≤ 122)) || ((decide (65 ≤ c) && decide (c ≤ 90)) || c == 95)
def letterF : SFn Unit Int Bool := ⟨letter0, fun _ _ => true, fun _ c => (false, letterB c, ())⟩
theorem letter_ev (c : Int) : letter0.evM (evOf call1 letter0) () c = (bif decide (97 ≤ c) then
    bif decide (c ≤ 122) then some (false, true, ())
    else bif decide (65 ≤ c) then bif decide (c ≤ 90) then some (false, true, ()) else some (false, c == 95, ()) else some (false, c == 95, ())
  else bif decide (65 ≤ c) then bif decide (c ≤ 90) then some (false, true, ()) else some (false, c == 95, ()) else some (false, c == 95, ())) := by kernel_rfl
theorem letter_at : SumAt 161 letterF.sum := fn_at call1OK fun _ c _ _ _ => by
  refine (letter_ev c).trans ?_
  unfold letterB
  cases decide (97 ≤ c) <;> cases decide (c ≤ 122) <;> cases decide (65 ≤ c) <;> cases decide (c ≤ 90) <;> rfl
def digit0 : SFn0 Unit Int Bool := mkFn 113 nilB (cInj .u8 0 255) cBool (false, false, ())
def digitB (c : Int) : Bool := decide (48 ≤ c) && decide (c ≤ 57)
def digitF : SFn Unit Int Bool := ⟨digit0, fun _ _ => true, fun _ c => (false, digitB c, ())⟩
theorem digit_ev (c : Int) : digit0.evM (evOf call1 digit0) () c = bif decide (48 ≤ c) then some (false, decide (c ≤ 57), ()) else some (false, false, ()) := by kernel_rfl
theorem digit_at : SumAt 113 digitF.sum := fn_at call1OK fun _ c _ _ _ => by
  refine (digit_ev c).trans ?_
  unfold digitB
  cases decide (48 ≤ c) <;> cases decide (c ≤ 57) <;> rfl
/-! ### peek -/
/-- The byte at a place. -/
def byteA (s : List UInt8) (i : Int) : Int := ((s.getD i.toNat 0).toNat : Int)
theorem byteA_le (s : List UInt8) (i : Int) : 0 ≤ byteA s i ∧ byteA s i ≤ 255 := by
  unfold byteA
  have := (s.getD i.toNat 0).toNat_lt
  omega
def peek0 : SFn0 Sc Unit Int := mkFn 112 scB cUnit (cInj .u8 0 255) (false, 0, sc0)
def peekM (x : Sc) : Int := bif x.i == x.s.length then 0 else byteA x.s x.i
def peekF : SFn Sc Unit Int := ⟨peek0, fun _ _ => true, fun x _ => (false, peekM x, x)⟩
theorem peek_ev (x : Sc) : peek0.evM (evOf call1 peek0) x () = bif x.i == Int.ofNat x.s.length then
    bif inSc x && true then some (false, 0, x) else none
  else bif decide (0 ≤ x.i ∧ x.i < x.s.length) then
    bif inSc x && true then some (false, byteA x.s x.i, x) else none
  else none := by kernel_rfl
theorem peek_at : SumAt 112 peekF.sum := fn_at call1OK fun x a hx _ _ => by
  have hx : inSc x = true := hx
  have g := inSc_iff.1 hx
  have g0 := g.i0; have g1 := g.i1
  refine (peek_ev x).trans ?_
  unfold peekM
  rw [hx]
  rw [show decide (0 ≤ x.i ∧ x.i < x.s.length) = !(x.i == Int.ofNat x.s.length) by
    have e : (Int.ofNat x.s.length) = (x.s.length : Int) := rfl
    rw [e]
    by_cases h : x.i = x.s.length
    · simp [h]
    · have : 0 ≤ x.i ∧ x.i < x.s.length := ⟨g0, by omega⟩
      simp [h, this]]
  have e : (x.i == (x.s.length : Int)) = (x.i == Int.ofNat x.s.length) := rfl
  rw [e]
  cases x.i == Int.ofNat x.s.length <;> rfl
noncomputable def sm2 (f : Nat) : Option Summ := match Nat.beq f 161 with
  | true => some letterF.sum
  | false => match Nat.beq f 113 with
    | true => some digitF.sum
    | false => match Nat.beq f 112 with
      | true => some peekF.sum
      | false => sm1 f
theorem sm_cons {sm : Nat → Option Summ} (h : ∀ f s, sm f = some s → SumAt f s) {k : Nat} {t : Summ} (hk : SumAt k t) : ∀ f s, (match Nat.beq f k with
  | true => some t
  | false => sm f) = some s → SumAt f s := by
  intro f s hs
  split at hs
  · rename_i e
    have e := Nat.eq_of_beq_eq_true e
    subst e
    injection hs with hs; subst hs; exact hk
  · exact h f s hs
theorem sm2_ok : ∀ f s, sm2 f = some s → SumAt f s := sm_cons (sm_cons (sm_cons sm1_ok peek_at) digit_at) letter_at
/-! ### how far a kind of bytes goes -/
def spanN (p : UInt8 → Bool) : List UInt8 → Nat
  | [] => 0
  | c :: r => bif p c then spanN p r + 1 else 0
theorem spanN_le (p : UInt8 → Bool) : ∀ l : List UInt8, spanN p l ≤ l.length
  | [] => Nat.le_refl _
  | c :: r => by
    unfold spanN
    have := spanN_le p r
    cases p c <;> simp <;> omega
theorem drop_at {s : List UInt8} {i : Nat} (h : i < s.length) : s.drop i = s.getD i 0 :: s.drop (i + 1) := by
  rw [List.drop_eq_getElem_cons h]
  simp [List.getD_eq_getElem?_getD, List.getElem?_eq_getElem h]
theorem span_in {p : UInt8 → Bool} {s : List UInt8} {i : Int} (h0 : 0 ≤ i) (h1 : i < s.length) (hp : p (s.getD i.toNat 0) = true) : spanN p (s.drop i.toNat) = spanN p (s.drop (i + 1).toNat) + 1 := by
  rw [drop_at (by omega), show (i + 1).toNat = i.toNat + 1 by omega]
  simp only [spanN, hp, cond_true]
theorem span_out {p : UInt8 → Bool} {s : List UInt8} {i : Int} (h0 : 0 ≤ i) (h1 : i < s.length) (hp : p (s.getD i.toNat 0) = false) : spanN p (s.drop i.toNat) = 0 := by
  rw [drop_at (by omega)]
  simp only [spanN, hp, cond_false]
theorem span_end {p : UInt8 → Bool} {s : List UInt8} {i : Int} (h1 : (s.length : Int) ≤ i) : spanN p (s.drop i.toNat) = 0 := by
  rw [List.drop_eq_nil_of_le (by omega)]; rfl
theorem span_le {p : UInt8 → Bool} {s : List UInt8} {i : Int} (h0 : 0 ≤ i) (h1 : i ≤ s.length) : i + spanN p (s.drop i.toNat) ≤ s.length := by
  have := spanN_le p (s.drop i.toNat)
  rw [List.length_drop] at this
  omega
/-- The place moves. -/
def mv (x : Sc) (i : Int) : Sc := { x with i := i }
theorem mv_in {x : Sc} (h : InSc x) {i : Int} (h0 : 0 ≤ i) (h1 : i ≤ x.s.length) : InSc (mv x i) := ⟨h0, h1, h.s, h.o0, h.o1, h.scope⟩
/-! ### blanks -/
def isBl (c : UInt8) : Bool := ((c.toNat : Int) == 32) || ((c.toNat : Int) == 9)
def afterBl (x : Sc) : Int := x.i + spanN isBl (x.s.drop x.i.toNat)
def blanks0 : SFn0 Sc Unit Unit := mkFn 39 scB cUnit cUnit (false, (), sc0)
def blanksF : SFn Sc Unit Unit := ⟨blanks0, fun _ _ => true, fun x _ => (false, (), mv x (afterBl x))⟩
def cn0 (x : Sc) : SD := ([.nul], [scCn x])
def par0 : SD → Option Sc
  | ([.nul], [u]) => scPar u
  | _ => none
theorem par0_eq (d : SD) (x : Sc) (h : par0 d = some x) : d = cn0 x := by
  unfold par0 at h
  split at h
  · rw [scPar_eq h]; rfl
  · cases h
theorem blanks_rd (x : Sc) : roundS sm2 39 (scSp []) (fun _ => none) 0 (cn0 x) = bif decide (x.i < Int.ofNat x.s.length) then
    bif decide (0 ≤ x.i ∧ x.i < x.s.length) then
      bif byteA x.s x.i == 32 then bif okCs scKs (scCn (mv x (x.i + 1))) && true then some (.normal, cn0 (mv x (x.i + 1))) else none
      else bif decide (0 ≤ x.i ∧ x.i < x.s.length) then
        bif byteA x.s x.i == 9 then bif okCs scKs (scCn (mv x (x.i + 1))) && true then some (.normal, cn0 (mv x (x.i + 1))) else none
        else bif okCs scKs (scCn x) && true then some (.exit 0, cn0 x) else none
      else none
    else none
  else bif okCs scKs (scCn x) && true then some (.exit 0, cn0 x) else none := by kernel_rfl
def blanksL (x : Sc) : T (LX × Sc) := .br (inSc x) (.ret (.nrm, mv x (afterBl x))) .fail
theorem br_run {α : Type} {b : Bool} {t : T α} {r : α} (h : (T.br b t .fail).run = some r) : b = true ∧ t.run = some r := by
  simp only [T.run] at h
  cases b with
  | true => exact ⟨rfl, h⟩
  | false => cases h
theorem blanks_step (x : Sc) (r : LX × Sc) (h : (blanksL x).run = some r) : (∃ s', roundS sm2 39 (scSp []) (fun _ => none) 0 (cn0 x) = some (.normal, cn0 s') ∧ (blanksL s').run = some r ∧ (s'.s.length - s'.i.toNat) < (x.s.length - x.i.toNat)) ∨ (roundS sm2 39 (scSp []) (fun _ => none) 0 (cn0 x) = some (.exit 0, cn0 r.2) ∧ r.1 = .nrm) := by
  obtain ⟨hin, h⟩ := br_run h
  injection h with h; subst h
  have g := inSc_iff.1 hin
  have g0 := g.i0; have g1 := g.i1
  rw [blanks_rd]
  by_cases hlt : x.i < x.s.length
  · have hm : InSc (mv x (x.i + 1)) := mv_in g (by omega) (by omega)
    rw [show decide (x.i < Int.ofNat x.s.length) = true from decide_eq_true hlt, show decide (0 ≤ x.i ∧ x.i < x.s.length) = true from decide_eq_true ⟨g0, hlt⟩, scOk hin, scOk (inSc_iff.2 hm)]
    simp only [cond_true, Bool.and_true]
    cases hb : isBl (x.s.getD x.i.toNat 0) with
    | true =>
      left
      refine ⟨mv x (x.i + 1), ?_, ?_, ?_⟩
      · unfold isBl at hb
        simp only [byteA]
        cases h1 : ((x.s.getD x.i.toNat 0).toNat : Int) == 32 with
        | true => rfl
        | false =>
          rw [h1] at hb
          simp only [Bool.false_or] at hb
          rw [hb]; rfl
      · unfold blanksL
        rw [inSc_iff.2 hm]
        simp only [T.run, cond_true, Option.some.injEq, Prod.mk.injEq, true_and]
        simp only [mv, afterBl]
        rw [span_in (p := isBl) g0 hlt hb]
        congr 1; omega
      · show x.s.length - (x.i + 1).toNat < x.s.length - x.i.toNat
        omega
    | false =>
      right
      refine ⟨?_, trivial⟩
      unfold isBl at hb
      simp only [Bool.or_eq_false_iff] at hb
      simp only [byteA, hb.1, hb.2, cond_false]
      have e : mv x (afterBl x) = x := by
        simp only [mv, afterBl, span_out (p := isBl) g0 hlt (by unfold isBl; rw [hb.1, hb.2]; rfl)]
        simp
      rw [e]
  · right
    refine ⟨?_, rfl⟩
    rw [show decide (x.i < Int.ofNat x.s.length) = false from decide_eq_false hlt, scOk hin]
    have e : mv x (afterBl x) = x := by
      simp only [mv, afterBl, span_end (p := isBl) (s := x.s) (i := x.i) (by omega)]
      simp
    rw [e]; rfl
noncomputable def blanksH : Nat → Option (St → T (X × St)) := hook1 0 (loopF (scSp []) par0 cn0 blanksL)
theorem blanks_ev (x : Sc) : blanks0.evM (evHook sm2 blanksH blanks0) x () = bif okCs scKs (scCn x) && true then bif inSc x then bif inSc (mv x (afterBl x)) && true then some (false, (), mv x (afterBl x)) else none else none else none := by kernel_rfl
theorem loop2 {A B C D : Prop} (h : A ∨ B) : A ∨ B ∨ C ∨ D := h.imp id .inl
theorem afterBl_in {x : Sc} (h : InSc x) : InSc (mv x (afterBl x)) := by
  have h0 := h.i0
  exact mv_in h (by unfold afterBl; omega) (span_le h.i0 h.i1)
theorem blanks_at : SumAt 39 blanksF.sum := SFn.sound (ev := evHook sm2 blanksH blanks0) (mkFn_ok (evHook_at sm2_ok (s := blanks0) (by kernel_rfl) (by kernel_rfl) (hook_ok sm2_ok (by decide) (μ := fun x => x.s.length - x.i.toNat) (by kernel_rfl) par0_eq fun x r h => loop2 (blanks_step x r h))) fun x a hx _ _ => by
  have hx : inSc x = true := hx
  refine (blanks_ev x).trans ?_
  rw [scOk hx, hx, inSc_iff.2 (afterBl_in (inSc_iff.1 hx))]; rfl)
end Go.Proofs.YtlmacdfbdhpljaaGreatDoor

namespace Go.Proofs.YtlmacdfbdhpljaaGreatDoor
open Go.Ev Go.Ev.Tr Go.Proofs
set_option maxRecDepth 1000000
def isWd (c : UInt8) : Bool := letterB (c.toNat : Int) || digitB (c.toNat : Int)
theorem isWd_at (s : List UInt8) (i : Int) : isWd (s.getD i.toNat 0) = (letterB (byteA s i) || digitB (byteA s i)) := rfl
/-- So many bytes of words come. -/
def nWd (x : Sc) : Nat := spanN isWd (x.s.drop x.i.toNat)
def cnW (p : Sc × Int) : SD := ([.nul, .i p.2], [scCn p.1])
def parW : SD → Option (Sc × Int)
  | ([.nul, .i f], [u]) => match scPar u with
    | some x => some (x, f)
    | none => none
  | _ => none
theorem parW_eq (d : SD) (p : Sc × Int) (h : parW d = some p) : d = cnW p := by
  unfold parW at h
  split at h <;> try contradiction
  split at h <;> try contradiction
  rename_i x hx
  injection h with h; subst h
  rw [scPar_eq hx]; rfl
def spW : LSpec := scSp [(3, .i .i64 0 281474976710656)]
theorem word_rd (x : Sc) (i : Int) : roundS sm2 163 spW (fun _ => none) 0 (cnW (x, i)) =
  bif decide (x.i < x.s.length) then
    bif decide (0 ≤ x.i ∧ x.i < x.s.length) then
      bif letterB (byteA x.s x.i) then
        bif x.i - i == 16 then
          bif decide (0 ≤ i) && decide (i ≤ 281474976710656) && true && (okSc x && true) then some (.pan slipV, cnW (x, i)) else none
        else
          bif decide (0 ≤ i) && decide (i ≤ 281474976710656) && true && (okSc (mv x (x.i + 1)) && true) then some (.normal, cnW (mv x (x.i + 1), i)) else none
      else
        bif decide (0 ≤ x.i ∧ x.i < x.s.length) then
          bif digitB (byteA x.s x.i) then
            bif x.i - i == 16 then
              bif decide (0 ≤ i) && decide (i ≤ 281474976710656) && true && (okSc x && true) then some (.pan slipV, cnW (x, i)) else none
            else
              bif decide (0 ≤ i) && decide (i ≤ 281474976710656) && true && (okSc (mv x (x.i + 1)) && true) then some (.normal, cnW (mv x (x.i + 1), i)) else none
          else
            bif decide (0 ≤ i) && decide (i ≤ 281474976710656) && true && (okSc x && true) then some (.exit 0, cnW (x, i)) else none
        else none
    else none
  else bif decide (0 ≤ i) && decide (i ≤ 281474976710656) && true && (okSc x && true) then some (.exit 0, cnW (x, i)) else none := by kernel_rfl
def wordIn (p : Sc × Int) : Bool := inSc p.1 && (decide (0 ≤ p.2) && (decide (p.2 ≤ p.1.i) && decide (p.1.i ≤ p.2 + 16)))
def wordL (p : Sc × Int) : T (LX × (Sc × Int)) := .br (wordIn p) (.br (decide (p.1.i + nWd p.1 ≤ p.2 + 16)) (.ret (.nrm, (mv p.1 (p.1.i + nWd p.1), p.2))) (.ret (.pan slipV, (mv p.1 (p.2 + 16), p.2)))) .fail
theorem wordL_next {x : Sc} {i : Int} (h : wordIn (x, i) = true) (hlt : x.i < x.s.length) (hw : isWd (x.s.getD x.i.toNat 0) = true) (hn : x.i ≠ i + 16) : wordIn (mv x (x.i + 1), i) = true ∧ wordL (mv x (x.i + 1), i) = wordL (x, i) := by
  simp only [wordIn, Bool.and_eq_true, decide_eq_true_eq] at h
  obtain ⟨h1, h2, h3, h4⟩ := h
  have g := inSc_iff.1 h1
  have g0 := g.i0
  have hm : inSc (mv x (x.i + 1)) = true := inSc_iff.2 (mv_in g (by omega) (by omega))
  have e1 : wordIn (mv x (x.i + 1), i) = true := by
    simp only [wordIn, Bool.and_eq_true, decide_eq_true_eq]
    refine ⟨hm, h2, ?_, ?_⟩
    · show i ≤ x.i + 1; omega
    · show x.i + 1 ≤ i + 16; omega
  refine ⟨e1, ?_⟩
  have e2 : wordIn (x, i) = true := by
    simp only [wordIn, Bool.and_eq_true, decide_eq_true_eq]
    exact ⟨h1, h2, h3, h4⟩
  have e3 : nWd x = nWd (mv x (x.i + 1)) + 1 := span_in (p := isWd) g0 hlt hw
  unfold wordL
  rw [e1, e2]
  simp only [e3]
  have e4 : (mv x (x.i + 1)).i + (nWd (mv x (x.i + 1)) : Int) = x.i + ((nWd (mv x (x.i + 1)) + 1 : Nat) : Int) := by
    show x.i + 1 + _ = _
    omega
  rw [e4]; rfl
theorem word_step (p : Sc × Int) (r : LX × (Sc × Int)) (h : (wordL p).run = some r) : (∃ s', roundS sm2 163 spW (fun _ => none) 0 (cnW p) = some (.normal, cnW s') ∧ (wordL s').run = some r ∧ (s'.1.s.length - s'.1.i.toNat) < (p.1.s.length - p.1.i.toNat)) ∨ (roundS sm2 163 spW (fun _ => none) 0 (cnW p) = some (.exit 0, cnW r.2) ∧ r.1 = .nrm) ∨
    (roundS sm2 163 spW (fun _ => none) 0 (cnW p) = some (.ret, cnW r.2) ∧ r.1 = .ret) ∨ (∃ v, roundS sm2 163 spW (fun _ => none) 0 (cnW p) = some (.pan v, cnW r.2) ∧ v.flat = true ∧ r.1 = .pan v) := by
  obtain ⟨x, i⟩ := p
  have h' := h
  obtain ⟨hin, h⟩ := br_run h
  have hin' := hin
  simp only [wordIn, Bool.and_eq_true, decide_eq_true_eq] at hin
  obtain ⟨h1, h2, h3, h4⟩ := hin
  have g := inSc_iff.1 h1
  have g0 := g.i0; have g1 := g.i1; have g2 := g.s
  have okx : okSc x = true := okSc_of g
  have oki : (decide (0 ≤ i) && decide (i ≤ 281474976710656)) = true := by simp; omega
  rw [word_rd, oki, okx]
  by_cases hlt : x.i < x.s.length
  · have hm : InSc (mv x (x.i + 1)) := mv_in g (by omega) (by omega)
    rw [show decide (x.i < x.s.length) = true from decide_eq_true hlt, show decide (0 ≤ x.i ∧ x.i < x.s.length) = true from decide_eq_true ⟨g0, hlt⟩, okSc_of hm]
    simp only [cond_true, Bool.and_true]
    cases hw : isWd (x.s.getD x.i.toNat 0) with
    | true =>
      have hw' := hw
      rw [isWd_at] at hw'
      by_cases h16 : x.i = i + 16
      · have e16 : (x.i - i == 16) = true := by simp; omega
        have hr : r = (.pan slipV, (x, i)) := by
          have hnw : nWd x = nWd (mv x (x.i + 1)) + 1 := span_in (p := isWd) g0 hlt hw
          have e1 : decide (x.i + (nWd x : Int) ≤ i + 16) = false := decide_eq_false (by omega)
          simp only [T.run, e1, cond_false, Option.some.injEq] at h
          rw [← h, show i + 16 = x.i by omega]; rfl
        right; right; right
        refine ⟨slipV, ?_, rfl, by rw [hr]⟩
        rw [e16, hr]
        cases hl : letterB (byteA x.s x.i) with
        | true => rfl
        | false => rw [hl] at hw'; simp only [Bool.false_or] at hw'; rw [hw']; rfl
      · have e16 : (x.i - i == 16) = false := by simp; omega
        left
        obtain ⟨k1, k2⟩ := wordL_next hin' hlt hw h16
        refine ⟨(mv x (x.i + 1), i), ?_, by rw [k2]; exact h', ?_⟩
        · rw [e16]
          cases hl : letterB (byteA x.s x.i) with
          | true => rfl
          | false => rw [hl] at hw'; simp only [Bool.false_or] at hw'; rw [hw']; rfl
        · show x.s.length - (x.i + 1).toNat < x.s.length - x.i.toNat
          omega
    | false =>
      right; left
      have hnw : nWd x = 0 := span_out (p := isWd) g0 hlt hw
      rw [isWd_at] at hw
      simp only [Bool.or_eq_false_iff] at hw
      simp only [T.run, hnw, Int.natCast_zero, Int.add_zero, decide_eq_true h4, cond_true, Option.some.injEq] at h
      rw [hw.1, hw.2, ← h]
      exact ⟨rfl, rfl⟩
  · right; left
    have hnw : nWd x = 0 := span_end (p := isWd) (s := x.s) (i := x.i) (by omega)
    simp only [T.run, hnw, Int.natCast_zero, Int.add_zero, decide_eq_true h4, cond_true, Option.some.injEq] at h
    rw [show decide (x.i < x.s.length) = false from decide_eq_false hlt, ← h]
    exact ⟨rfl, rfl⟩
noncomputable def wordH : Nat → Option (St → T (X × St)) := hook1 0 (loopF spW parW cnW wordL)
def word0 : SFn0 Sc Unit (List UInt8) := mkFn 163 scB cUnit cStr (false, [], sc0)
theorem word_ev (x : Sc) : word0.evM (evHook sm2 wordH word0) x () =
  bif x.i == x.s.length then bif inSc x && okCs [KS.s] [SV.s []] then some (false, [], x) else none
  else bif decide (0 ≤ x.i ∧ x.i < x.s.length) then
    bif !letterB (byteA x.s x.i) then bif inSc x && okCs [KS.s] [SV.s []] then some (false, [], x) else none
    else bif decide (0 ≤ x.i) && decide (x.i ≤ 281474976710656) && true && (okSc x && true) then
      bif wordIn (x, x.i) then
        bif decide (x.i + (nWd x : Int) ≤ x.i + 16) then
          bif decide (x.i ≤ x.i + (nWd x : Int) ∧ x.i + (nWd x : Int) ≤ x.s.length) then
            bif inSc (mv x (x.i + nWd x)) && okCs [KS.s] [SV.s (List.drop x.i.toNat (List.take (x.i + (nWd x : Int)).toNat x.s))] then
              some (false, List.drop x.i.toNat (List.take (x.i + (nWd x : Int)).toNat x.s), (mv x (x.i + nWd x)))
            else none
          else none
        else bif inSc (mv x (x.i + 16)) && okCs [KS.s] [SV.s []] then some (true, [], (mv x (x.i + 16))) else none
      else none
    else none
  else none := by kernel_rfl
/-- Bytes from i to j. -/
def subS (s : List UInt8) (i j : Int) : List UInt8 := List.drop i.toNat (List.take j.toNat s)
theorem subS_nil (s : List UInt8) (i : Int) : subS s i i = [] := by
  unfold subS
  apply List.drop_eq_nil_of_le
  rw [List.length_take]; omega
theorem subS_len (s : List UInt8) (i j : Int) : (subS s i j).length ≤ s.length := by
  unfold subS
  rw [List.length_drop, List.length_take]; omega
theorem okS {l : List UInt8} (h : l.length ≤ 281474976710656) : okCs [KS.s] [SV.s l] = true := by
  simp only [okCs, okK, Bool.and_true]
  exact decide_eq_true h
def firstL (x : Sc) : Bool := !(x.i == x.s.length) && letterB (byteA x.s x.i)
/-- So many bytes has the word. -/
def wordN (x : Sc) : Nat := bif firstL x then nWd x else 0
def wordP (x : Sc) : Bool := decide (16 < wordN x)
def wordV (x : Sc) : List UInt8 := bif wordP x then [] else subS x.s x.i (x.i + wordN x)
def wordI (x : Sc) : Int := bif wordP x then x.i + 16 else x.i + wordN x
def wordF : SFn Sc Unit (List UInt8) := ⟨word0, fun _ _ => true, fun x _ => (wordP x, wordV x, mv x (wordI x))⟩
theorem nWd_le {x : Sc} (h : InSc x) : x.i + nWd x ≤ x.s.length := span_le h.i0 h.i1
theorem wordN_le {x : Sc} (h : InSc x) : x.i + wordN x ≤ x.s.length := by
  have := nWd_le h
  have := h.i1
  unfold wordN
  cases firstL x <;> simp only [cond_true, cond_false] <;> omega
theorem wordI_in {x : Sc} (h : InSc x) : InSc (mv x (wordI x)) := by
  have h1 := wordN_le h
  have h0 := h.i0
  refine mv_in h ?_ ?_
  · unfold wordI; cases wordP x <;> simp only [cond_true, cond_false] <;> omega
  · unfold wordI
    cases hp : wordP x
    · simp only [cond_false]; exact h1
    · simp only [cond_true]
      have := of_decide_eq_true hp
      omega
theorem word_at : SumAt 163 wordF.sum := SFn.sound (ev := evHook sm2 wordH word0) (mkFn_ok (evHook_at sm2_ok (s := word0) (by kernel_rfl) (by kernel_rfl) (hook_ok sm2_ok (by decide) (μ := fun p => p.1.s.length - p.1.i.toNat) (by kernel_rfl) parW_eq word_step)) fun x a hx _ _ => by
  have hx : inSc x = true := hx
  have g := inSc_iff.1 hx
  have g0 := g.i0; have g1 := g.i1; have g2 := g.s
  have hnw := nWd_le g
  have same : mv x x.i = x := rfl
  refine (word_ev x).trans ?_
  rw [hx, okS (l := []) (by simp), okSc_of g]
  have none_ : firstL x = false → wordP x = false ∧ wordV x = [] ∧ wordI x = x.i := fun h => by
    have e : wordN x = 0 := by unfold wordN; rw [h]; rfl
    have e2 : wordP x = false := by unfold wordP; rw [e]; rfl
    refine ⟨e2, ?_, ?_⟩
    · unfold wordV; rw [e2, e]
      simp only [cond_false, Int.natCast_zero, Int.add_zero, subS_nil]
    · unfold wordI; rw [e2, e]; simp
  cases he : (x.i == (x.s.length : Int)) with
  | true =>
    obtain ⟨e1, e2, e3⟩ := none_ (by unfold firstL; rw [he]; rfl)
    rw [e1, e2, e3, same]; rfl
  | false =>
    have hlt : x.i < x.s.length := by
      have : x.i ≠ x.s.length := by simpa using he
      omega
    rw [show decide (0 ≤ x.i ∧ x.i < x.s.length) = true from decide_eq_true ⟨g0, hlt⟩]
    cases hl : letterB (byteA x.s x.i) with
    | false =>
      obtain ⟨e1, e2, e3⟩ := none_ (by unfold firstL; rw [hl, Bool.and_false])
      rw [e1, e2, e3, same]; rfl
    | true =>
      have ef : firstL x = true := by unfold firstL; rw [he, hl]; rfl
      have en : wordN x = nWd x := by unfold wordN; rw [ef]; rfl
      have e1 : (decide (0 ≤ x.i) && decide (x.i ≤ 281474976710656)) = true := by simp; omega
      have e2 : wordIn (x, x.i) = true := by
        simp only [wordIn, Bool.and_eq_true, decide_eq_true_eq]
        exact ⟨hx, g0, Int.le_refl _, by omega⟩
      rw [e1, e2]
      simp only [Bool.not_true, cond_false, cond_true, Bool.and_true]
      by_cases h16 : nWd x ≤ 16
      · have ep : wordP x = false := by unfold wordP; rw [en]; exact decide_eq_false (by omega)
        have ei : wordI x = x.i + nWd x := by unfold wordI; rw [ep, en]; rfl
        have ev : wordV x = subS x.s x.i (x.i + nWd x) := by unfold wordV; rw [ep, en]; rfl
        have hin : inSc (mv x (x.i + nWd x)) = true := by rw [← ei]; exact inSc_iff.2 (wordI_in g)
        rw [show decide (x.i + (nWd x : Int) ≤ x.i + 16) = true from decide_eq_true (by omega), show decide (x.i ≤ x.i + (nWd x : Int) ∧ x.i + (nWd x : Int) ≤ x.s.length) = true from decide_eq_true ⟨by omega, hnw⟩, hin,
          okS (l := List.drop x.i.toNat (List.take (x.i + (nWd x : Int)).toNat x.s)) (by have := subS_len x.s x.i (x.i + nWd x); unfold subS at this; omega), ep, ei, ev]
        rfl
      · have ep : wordP x = true := by unfold wordP; rw [en]; exact decide_eq_true (by omega)
        have ei : wordI x = x.i + 16 := by unfold wordI; rw [ep]; rfl
        have ev : wordV x = [] := by unfold wordV; rw [ep]; rfl
        have hin : inSc (mv x (x.i + 16)) = true := by rw [← ei]; exact inSc_iff.2 (wordI_in g)
        rw [show decide (x.i + (nWd x : Int) ≤ x.i + 16) = false from decide_eq_false (by omega), hin, ep, ei, ev]
        rfl)
end Go.Proofs.YtlmacdfbdhpljaaGreatDoor

namespace Go.Proofs.YtlmacdfbdhpljaaGreatDoor
open Go.Ev Go.Ev.Tr Go.Proofs
set_option maxRecDepth 1000000
noncomputable def sm3 (f : Nat) : Option Summ := match Nat.beq f 39 with
  | true => some blanksF.sum
  | false => match Nat.beq f 163 with
    | true => some wordF.sum
    | false => sm2 f
theorem sm3_ok : ∀ f s, sm3 f = some s → SumAt f s := sm_cons (sm_cons sm2_ok word_at) blanks_at
/-! ### loops that go on while bytes are of a kind -/
def orP (p q : Int → Bool) (c : UInt8) : Bool := p (c.toNat : Int) || q (c.toNat : Int)
/-- Their round. -/
def spanTree {R : Type} (p q : Int → Bool) (ok : R → Bool) (cn : Sc × R → SD) (k : Nat) (x : Sc) (r : R) : Option (X × SD) :=
  bif decide (x.i < x.s.length) then
    bif decide (0 ≤ x.i ∧ x.i < x.s.length) then
      bif p (byteA x.s x.i) then bif ok r && (okSc (mv x (x.i + 1)) && true) then some (.normal, cn (mv x (x.i + 1), r)) else none
      else bif decide (0 ≤ x.i ∧ x.i < x.s.length) then
        bif q (byteA x.s x.i) then bif ok r && (okSc (mv x (x.i + 1)) && true) then some (.normal, cn (mv x (x.i + 1), r)) else none
        else bif ok r && (okSc x && true) then some (.exit k, cn (x, r)) else none
      else none
    else none
  else bif ok r && (okSc x && true) then some (.exit k, cn (x, r)) else none
def spanL {R : Type} (p q : Int → Bool) (ok : R → Bool) (z : Sc × R) : T (LX × (Sc × R)) :=
  .br (inSc z.1 && ok z.2) (.ret (.nrm, (mv z.1 (z.1.i + spanN (orP p q) (z.1.s.drop z.1.i.toNat)), z.2))) .fail
theorem span_step {R : Type} {p q : Int → Bool} {ok : R → Bool} {cn : Sc × R → SD} {k : Nat} {rd : SD → Option (X × SD)} (hrd : ∀ x r, rd (cn (x, r)) = spanTree p q ok cn k x r) (z : Sc × R) (e : LX × (Sc × R)) (h : (spanL p q ok z).run = some e) :
    (∃ s', rd (cn z) = some (.normal, cn s') ∧ (spanL p q ok s').run = some e ∧ (s'.1.s.length - s'.1.i.toNat) < (z.1.s.length - z.1.i.toNat)) ∨ (rd (cn z) = some (.exit k, cn e.2) ∧ e.1 = .nrm) ∨ (rd (cn z) = some (.ret, cn e.2) ∧ e.1 = .ret) ∨ (∃ v, rd (cn z) = some (.pan v, cn e.2) ∧ v.flat = true ∧ e.1 = .pan v) := by
  obtain ⟨x, r⟩ := z
  obtain ⟨hin, h⟩ := br_run h
  injection h with h; subst h
  simp only [Bool.and_eq_true] at hin
  obtain ⟨hin, hok⟩ := hin
  have g := inSc_iff.1 hin
  have g0 := g.i0; have g1 := g.i1
  have okx := okSc_of g
  rw [hrd]
  unfold spanTree
  by_cases hlt : x.i < x.s.length
  · have hm : InSc (mv x (x.i + 1)) := mv_in g (by omega) (by omega)
    rw [show decide (x.i < x.s.length) = true from decide_eq_true hlt, show decide (0 ≤ x.i ∧ x.i < x.s.length) = true from decide_eq_true ⟨g0, hlt⟩, okx, okSc_of hm, hok]
    simp only [cond_true, Bool.and_true]
    have hb : orP p q (x.s.getD x.i.toNat 0) = (p (byteA x.s x.i) || q (byteA x.s x.i)) := rfl
    have next : (p (byteA x.s x.i) || q (byteA x.s x.i)) = true → (spanL p q ok (mv x (x.i + 1), r)).run = some (LX.nrm, (mv x (x.i + spanN (orP p q) (x.s.drop x.i.toNat)), r)) := fun h => by
      unfold spanL
      simp only [inSc_iff.2 hm, hok, Bool.and_true, T.run, cond_true, Option.some.injEq, Prod.mk.injEq, true_and, and_true]
      simp only [mv]
      rw [span_in (p := orP p q) g0 hlt (by rw [hb]; exact h)]
      congr 1; omega
    have lt : (mv x (x.i + 1)).s.length - (mv x (x.i + 1)).i.toNat < x.s.length - x.i.toNat := by
      show x.s.length - (x.i + 1).toNat < x.s.length - x.i.toNat
      omega
    cases hp : p (byteA x.s x.i) with
    | true =>
      left
      exact ⟨(mv x (x.i + 1), r), rfl, next (by rw [hp]; rfl), lt⟩
    | false =>
      cases hq : q (byteA x.s x.i) with
      | true =>
        left
        exact ⟨(mv x (x.i + 1), r), rfl, next (by rw [hq, Bool.or_true]), lt⟩
      | false =>
        right; left
        refine ⟨?_, trivial⟩
        have e : mv x (x.i + spanN (orP p q) (x.s.drop x.i.toNat)) = x := by
          rw [span_out (p := orP p q) g0 hlt (by rw [hb, hp, hq]; rfl)]
          simp [mv]
        rw [e]; rfl
  · right; left
    refine ⟨?_, rfl⟩
    rw [show decide (x.i < x.s.length) = false from decide_eq_false hlt, okx, hok]
    have e : mv x (x.i + spanN (orP p q) (x.s.drop x.i.toNat)) = x := by
      rw [span_end (p := orP p q) (s := x.s) (i := x.i) (by omega)]
      simp [mv]
    rw [e]; rfl
/-! ### keyword -/
abbrev KwS := Sc × (List UInt8 × (Int × Int))
def cnK (p : KwS) : SD := ([.nul, .s p.2.1, .i p.2.2.1, .i p.2.2.2], [scCn p.1])
def parK : SD → Option KwS
  | ([.nul, .s w, .i a, .i b], [u]) => match scPar u with
    | some x => some (x, w, a, b)
    | none => none
  | _ => none
theorem parK_eq (d : SD) (p : KwS) (h : parK d = some p) : d = cnK p := by
  unfold parK at h
  split at h <;> try contradiction
  split at h <;> try contradiction
  rename_i x hx
  injection h with h; subst h
  rw [scPar_eq hx]; rfl
def spK : LSpec := scSp [(1, .s), (5, .i .i64 0 281474976710656), (6, .i .i64 0 281474976710656)]
def okK2 (r : List UInt8 × (Int × Int)) : Bool := decide (r.1.length ≤ 281474976710656) && (decide (0 ≤ r.2.1) && decide (r.2.1 ≤ 281474976710656) && (decide (0 ≤ r.2.2) && decide (r.2.2 ≤ 281474976710656) && true))
theorem kw_rd (x : Sc) (r : List UInt8 × (Int × Int)) : roundS sm3 204 spK (fun _ => none) 0 (cnK (x, r)) = spanTree letterB digitB okK2 cnK 0 x r := by kernel_rfl
noncomputable def kwH : Nat → Option (St → T (X × St)) := hook1 0 (loopF spK parK cnK (spanL letterB digitB okK2))
def kw0 : SFn0 Sc (List UInt8) Bool := mkFn 204 scB cStr cBool (false, false, sc0)
/-- The end of the word that comes behind blanks. -/
def kwE (x : Sc) : Int := afterBl x + nWd (mv x (afterBl x))
def kwB (x : Sc) (w : List UInt8) : Bool := bytesEq (subS x.s (afterBl x) (kwE x)) w
def kwI (x : Sc) (w : List UInt8) : Int := bif kwB x w then kwE x else x.i
def kwF : SFn Sc (List UInt8) Bool := ⟨kw0, fun _ _ => true, fun x w => (false, kwB x w, mv x (kwI x w))⟩
theorem kw_ev (x : Sc) (w : List UInt8) : kw0.evM (evHook sm3 kwH kw0) x w =
  bif inSc x && true then
    bif okK2 (w, x.i, afterBl x) && (okSc (mv x (afterBl x)) && true) then
      bif inSc (mv x (afterBl x)) && okK2 (w, x.i, afterBl x) then
        bif decide (afterBl x ≤ kwE x ∧ kwE x ≤ x.s.length) then
          bif kwB x w then bif inSc (mv x (kwE x)) && true then some (false, true, mv x (kwE x)) else none
          else bif inSc x && true then some (false, false, x) else none
        else none
      else none
    else none
  else none := by kernel_rfl
theorem afterBl_le {x : Sc} (h : InSc x) : x.i ≤ afterBl x ∧ afterBl x ≤ x.s.length := ⟨by unfold afterBl; omega, (afterBl_in h).i1⟩
theorem kwE_le {x : Sc} (h : InSc x) : afterBl x ≤ kwE x ∧ kwE x ≤ x.s.length := ⟨by unfold kwE; omega, nWd_le (afterBl_in h)⟩
theorem kwI_in {x : Sc} (h : InSc x) (w : List UInt8) : InSc (mv x (kwI x w)) := by
  have h1 := kwE_le h
  have h2 := afterBl_le h
  have h0 := h.i0; have h3 := h.i1
  refine mv_in h ?_ ?_ <;> unfold kwI <;> cases kwB x w <;> simp only [cond_true, cond_false] <;> omega
theorem okW {w : List UInt8} (h : okCs cStr.ks (cStr.cn w) = true) : w.length ≤ 281474976710656 := by
  simp only [cStr, cOne, okCs, okK, Bool.and_true, decide_eq_true_eq] at h
  exact h
theorem kw_at : SumAt 204 kwF.sum := SFn.sound (ev := evHook sm3 kwH kw0) (mkFn_ok (evHook_at sm3_ok (s := kw0) (by kernel_rfl) (by kernel_rfl) (hook_ok sm3_ok (by decide) (μ := fun p => p.1.s.length - p.1.i.toNat) (by kernel_rfl) parK_eq (span_step kw_rd))) fun x w hx hw _ => by
  have hx : inSc x = true := hx
  have hw := okW hw
  have g := inSc_iff.1 hx
  have g0 := g.i0; have g1 := g.i1; have g2 := g.s
  have b := afterBl_le g
  have e := kwE_le g
  refine (kw_ev x w).trans ?_
  have ek : okK2 (w, x.i, afterBl x) = true := by
    simp only [okK2, Bool.and_eq_true, decide_eq_true_eq, Bool.and_true]
    refine ⟨hw, ⟨g0, by omega⟩, by omega, by omega⟩
  rw [hx, ek, okSc_of (afterBl_in g), inSc_iff.2 (afterBl_in g), show decide (afterBl x ≤ kwE x ∧ kwE x ≤ x.s.length) = true from decide_eq_true e]
  unfold kwI
  cases hb : kwB x w with
  | true =>
    have := kwI_in g w
    unfold kwI at this
    rw [hb] at this
    rw [show inSc (mv x (kwE x)) = true from inSc_iff.2 this]; rfl
  | false => rfl)
/-! ### end -/
noncomputable def sm4 (f : Nat) : Option Summ := match Nat.beq f 204 with
  | true => some kwF.sum
  | false => sm3 f
theorem sm4_ok : ∀ f s, sm4 f = some s → SumAt f s := sm_cons sm3_ok kw_at
def end0 : SFn0 Sc Unit Unit := mkFn 205 scB cUnit cUnit (false, (), sc0)
def sign0 : SFn0 Sc (List UInt8) Bool := mkFn 232 scB cStr cBool (false, false, sc0)
def local0 : SFn0 Sc Unit (List UInt8) := mkFn 162 scB cUnit cStr (false, [], sc0)
def reserved0 : SFn0 Unit (List UInt8) Bool := mkFn 164 nilB cStr cBool (false, false, ())
def char0 : SFn0 Sc Unit Int := mkFn 115 scB cUnit (cInj .i64 0 255) (false, 0, sc0)
def opOf0 : SFn0 Unit (Int × Int) (List UInt8) := mkFn 118 nilB (cInjC .i64 0 6 (cInj .u8 0 255)) cStr (false, [], ())
end Go.Proofs.YtlmacdfbdhpljaaGreatDoor

namespace Go.Proofs.YtlmacdfbdhpljaaGreatDoor
open Go.Ev Go.Ev.Tr Go.Proofs
set_option maxRecDepth 1000000
/-! ### reserved -/
def anyOf (w : List UInt8) : List (List UInt8) → Bool
  | [] => false
  | a :: r => bif bytesEq w a then true else anyOf w r
def resTab : List (List UInt8) := [[110, 111, 112], [108, 100], [115, 116, 111, 112], [106, 114], [97, 100, 100], [105, 110, 99], [100, 101, 99], [104, 97, 108, 116], [114, 101, 116], [108, 100, 104], [112, 111, 112], [114, 101, 116, 105], [106, 112], [100, 105], [101, 105], [99, 97, 108, 108], [112, 117, 115, 104], [114, 115, 116], [98, 105, 116], [114, 101, 115], [115, 101, 116], [98], [99], [100], [101], [104], [108], [97], [104, 108], [98, 99], [100, 101], [115, 112], [97, 102], [110, 122], [122], [110, 99], [97, 100, 99], [115, 117, 98], [115, 98, 99], [97, 110, 100], [120, 111, 114], [111, 114], [99, 112], [114, 108, 99], [114, 114, 99], [114, 108], [114, 114], [115, 108, 97], [115, 114, 97], [115, 119, 97, 112], [115, 114, 108], [114, 108, 99, 97], [114, 114, 99, 97], [114, 108, 97], [114, 114, 97], [100, 97, 97], [99, 112, 108], [115, 99, 102], [99, 99, 102], [100, 98], [100, 119], [100, 115], [111, 114, 103], [101, 113, 117], [104, 105, 103, 104], [108, 111, 119]]
def anyO (w : List UInt8) : List (List UInt8) → Option (Bool × Bool × Unit)
  | [] => some (false, false, ())
  | a :: r => bif bytesEq w a then some (false, true, ()) else anyO w r
theorem anyO_eq (w : List UInt8) : ∀ l, anyO w l = some (false, anyOf w l, ())
  | [] => rfl
  | a :: r => by
    unfold anyO anyOf
    cases bytesEq w a with
    | true => rfl
    | false => exact anyO_eq w r
def resF : SFn Unit (List UInt8) Bool := ⟨reserved0, fun _ _ => true, fun _ w => (false, anyOf w resTab, ())⟩
theorem res_ev (w : List UInt8) : reserved0.evM (evOf (callS sm4) reserved0) () w = anyO w resTab := by kernel_rfl
theorem res_at : SumAt 164 resF.sum := fn_at (callSOK sm4_ok) fun _ w _ _ _ => (res_ev w).trans (anyO_eq w resTab)
/-! ### end -/
def endF : SFn Sc Unit Unit := ⟨end0, fun _ _ => true, fun x _ => (decide (afterBl x < x.s.length), (), mv x (afterBl x))⟩
theorem end_ev (x : Sc) : end0.evM (evOf (callS sm4) end0) x () = bif inSc x && true then
    bif decide (afterBl x < x.s.length) then bif inSc (mv x (afterBl x)) && true then some (true, (), mv x (afterBl x)) else none
    else bif inSc (mv x (afterBl x)) && true then some (false, (), mv x (afterBl x)) else none
  else none := by kernel_rfl
theorem end_at : SumAt 205 endF.sum := fn_at (callSOK sm4_ok) fun x a hx _ _ => by
  have hx : inSc x = true := hx
  refine (end_ev x).trans ?_
  rw [hx, inSc_iff.2 (afterBl_in (inSc_iff.1 hx))]
  show _ = some (decide (afterBl x < x.s.length), (), mv x (afterBl x))
  cases decide (afterBl x < x.s.length) <;> rfl
/-! ### local -/
def locX (x : Sc) : Sc := mv x (x.i + 1)
def locP (x : Sc) : Bool := wordP (locX x) || bytesEq (wordV (locX x)) []
def locV (x : Sc) : List UInt8 := bif locP x then [] else x.scope ++ [46] ++ wordV (locX x)
def locS (x : Sc) : Sc := ⟨x.s, wordI (locX x), x.o, x.full, x.scope, bif locP x then x.lost else bif bytesEq x.scope [] then true else x.lost⟩
def locF : SFn Sc Unit (List UInt8) := ⟨local0, fun x _ => decide (x.i < x.s.length), fun x _ => (locP x, locV x, locS x)⟩
theorem loc_ev (x : Sc) : local0.evM (evOf (callS sm4) local0) x () = bif inSc (locX x) && true then
    bif wordP (locX x) then bif inSc (mv x (wordI (locX x))) && okCs [KS.s] [SV.s []] then some (true, [], mv x (wordI (locX x))) else none
    else bif bytesEq (wordV (locX x)) [] then bif inSc (mv x (wordI (locX x))) && okCs [KS.s] [SV.s []] then some (true, [], mv x (wordI (locX x))) else none
    else bif bytesEq x.scope [] then
      bif decide (x.scope.length + 1 ≤ 281474976710656) then
        bif decide ((x.scope ++ [46]).length + (wordV (locX x)).length ≤ 281474976710656) then
          bif inSc ⟨x.s, wordI (locX x), x.o, x.full, x.scope, true⟩ && okCs [KS.s] [SV.s (x.scope ++ [46] ++ wordV (locX x))] then
            some (false, x.scope ++ [46] ++ wordV (locX x), ⟨x.s, wordI (locX x), x.o, x.full, x.scope, true⟩)
          else none
        else none
      else none
    else
      bif decide (x.scope.length + 1 ≤ 281474976710656) then
        bif decide ((x.scope ++ [46]).length + (wordV (locX x)).length ≤ 281474976710656) then
          bif inSc (mv x (wordI (locX x))) && okCs [KS.s] [SV.s (x.scope ++ [46] ++ wordV (locX x))] then
            some (false, x.scope ++ [46] ++ wordV (locX x), mv x (wordI (locX x)))
          else none
        else none
      else none
  else none := by kernel_rfl
theorem wordV_len (x : Sc) : (wordV x).length ≤ x.s.length := by
  unfold wordV
  cases wordP x with
  | true => simp
  | false => exact subS_len _ _ _
theorem loc_at : SumAt 162 locF.sum := fn_at (callSOK sm4_ok) fun x a hx _ hp => by
  have hx : inSc x = true := hx
  have hp : x.i < x.s.length := of_decide_eq_true hp
  have g := inSc_iff.1 hx
  have g0 := g.i0
  have gl : InSc (locX x) := mv_in g (by omega) (by omega)
  have gw : InSc (mv x (wordI (locX x))) := wordI_in gl
  have gt : InSc ⟨x.s, wordI (locX x), x.o, x.full, x.scope, true⟩ := ⟨gw.i0, gw.i1, gw.s, gw.o0, gw.o1, gw.scope⟩
  have hlen : (wordV (locX x)).length ≤ x.s.length := wordV_len (locX x)
  have hs := g.s; have hsc := g.scope
  have d1 : decide (x.scope.length + 1 ≤ 281474976710656) = true := decide_eq_true (by omega)
  have l1 : (x.scope ++ ([46] : List UInt8)).length = x.scope.length + 1 := by simp
  have d2 : decide ((x.scope ++ ([46] : List UInt8)).length + (wordV (locX x)).length ≤ 281474976710656) = true := decide_eq_true (by omega)
  have d3 : okCs [KS.s] [SV.s (x.scope ++ ([46] : List UInt8) ++ wordV (locX x))] = true := okS (by rw [List.length_append]; omega)
  refine (loc_ev x).trans ?_
  rw [inSc_iff.2 gl, inSc_iff.2 gw, inSc_iff.2 gt, okS (l := []) (by simp), d1, d2, d3]
  show _ = some (locP x, locV x, locS x)
  unfold locV locS locP
  cases wordP (locX x) <;> cases bytesEq (wordV (locX x)) [] <;> cases bytesEq x.scope [] <;> rfl
end Go.Proofs.YtlmacdfbdhpljaaGreatDoor

namespace Go.Proofs.YtlmacdfbdhpljaaGreatDoor
open Go.Ev Go.Ev.Tr Go.Proofs
set_option maxRecDepth 1000000
/-! ### digits -/
noncomputable def sm5 (f : Nat) : Option Summ := match Nat.beq f 205 with
  | true => some endF.sum
  | false => match Nat.beq f 162 with
    | true => some locF.sum
    | false => match Nat.beq f 164 with
      | true => some resF.sum
      | false => sm4 f
theorem sm5_ok : ∀ f s, sm5 f = some s → SumAt f s := sm_cons (sm_cons (sm_cons sm4_ok res_at) loc_at) end_at
def b160 : SFn0 Unit Int Int := mkFn 160 nilB (cInj .u8 0 255) (cInj .i64 (-1) 15) (false, 0, ())
def text0 : SFn0 Sc Unit (List UInt8 × Bool) := mkFn 209 scB cUnit (cStrC cBool) (false, ([], false), sc0)
def b16x (c : Int) : Int := (c.toNat.lor (32 * (c / 64 % 2)).toNat : Nat)
def posI (v : Int) : List Int → Int → Int
  | [], _ => -1
  | a :: r, k => bif a == v then k else posI v r (k + 1)
def posO (v : Int) : List Int → Int → Option (Bool × Int × Unit)
  | [], _ => some (false, -1, ())
  | a :: r, k => bif a == v then some (false, k, ()) else posO v r (k + 1)
theorem posO_eq (v : Int) : ∀ l k, posO v l k = some (false, posI v l k, ())
  | [], _ => rfl
  | a :: r, k => by
    unfold posO posI
    cases a == v with
    | true => rfl
    | false => exact posO_eq v r (k + 1)
def hexTab : List Int := [48, 49, 50, 51, 52, 53, 54, 55, 56, 57, 97, 98, 99, 100, 101, 102]
/-- The value of a digit. -/
def b16 (c : Int) : Int := posI (b16x c) hexTab 0
def b16F : SFn Unit Int Int := ⟨b160, fun _ _ => true, fun _ c => (false, b16 c, ())⟩
theorem b16_ev (c : Int) : b160.evM (evOf (callS sm5) b160) () c = posO (b16x c) hexTab 0 := by kernel_rfl
theorem b16_at : SumAt 160 b16F.sum := fn_at (callSOK sm5_ok) fun _ c _ _ _ => (b16_ev c).trans (posO_eq _ _ _)
theorem posI_ge (v : Int) : ∀ (l : List Int) (k : Int), 0 ≤ k → -1 ≤ posI v l k ∧ posI v l k < k + l.length
  | [], k, h => by simp only [posI, List.length_nil]; omega
  | a :: r, k, h => by
    have := posI_ge v r (k + 1) (by omega)
    unfold posI
    simp only [List.length_cons]
    cases a == v <;> simp only [cond_true, cond_false] <;> omega
theorem b16_le (c : Int) : -1 ≤ b16 c ∧ b16 c ≤ 15 := by
  have := posI_ge (b16x c) hexTab 0 (Int.le_refl _)
  have e : (hexTab.length : Int) = 16 := rfl
  unfold b16; omega
noncomputable def sm6 (f : Nat) : Option Summ := match Nat.beq f 160 with
  | true => some b16F.sum
  | false => sm5 f
theorem sm6_ok : ∀ f s, sm6 f = some s → SumAt f s := sm_cons sm5_ok b16_at
/-- digits: the scanner; the base; the number so far; is there one. -/
abbrev DgS := Sc × (Int × (Int × Bool))
def cnD (p : DgS) : SD := ([.nul, .i p.2.1, .i p.2.2.1, .b p.2.2.2], [scCn p.1])
def parD : SD → Option DgS
  | ([.nul, .i a, .i b, .b c], [u]) => match scPar u with
    | some x => some (x, a, b, c)
    | none => none
  | _ => none
theorem parD_eq (d : SD) (p : DgS) (h : parD d = some p) : d = cnD p := by
  unfold parD at h
  split at h <;> try contradiction
  split at h <;> try contradiction
  rename_i x hx
  injection h with h; subst h
  rw [scPar_eq hx]; rfl
def spD : LSpec := scSp [(1, .i .i64 2 16), (5, .i .i64 0 1099511627776), (6, .b)]
def dgNext (b n c : Int) : Int := if 1099511627776 < n * b + b16 c then 1099511627776 else n * b + b16 c
def okD (b n : Int) : Bool := decide (2 ≤ b) && decide (b ≤ 16) && (decide (0 ≤ n) && decide (n ≤ 1099511627776) && true)
theorem dig_rd (x : Sc) (b n : Int) (f : Bool) : roundS sm6 114 spD (fun _ => none) 0 (cnD (x, b, n, f)) =
  bif decide (x.i < x.s.length) then
    bif decide (0 ≤ x.i ∧ x.i < x.s.length) then
      bif decide (b16 (byteA x.s x.i) < 0) then bif okD b n && (okSc x && true) then some (.exit 0, cnD (x, b, n, f)) else none
      else bif decide (b ≤ b16 (byteA x.s x.i)) then bif okD b n && (okSc x && true) then some (.exit 0, cnD (x, b, n, f)) else none
      else bif okD b (dgNext b n (byteA x.s x.i)) && (okSc (mv x (x.i + 1)) && true) then some (.normal, cnD (mv x (x.i + 1), b, dgNext b n (byteA x.s x.i), true)) else none
    else none
  else bif okD b n && (okSc x && true) then some (.exit 0, cnD (x, b, n, f)) else none := by kernel_rfl
def isDg (b : Int) (c : UInt8) : Bool := !(decide (b16 (c.toNat : Int) < 0)) && !(decide (b ≤ b16 (c.toNat : Int)))
/-- What the digits come to. -/
def dgV (b : Int) : Int → List UInt8 → Int
  | n, [] => n
  | n, c :: r => bif isDg b c then dgV b (dgNext b n (c.toNat : Int)) r else n
def nDg (b : Int) (x : Sc) : Nat := spanN (isDg b) (x.s.drop x.i.toNat)
def dgIn (p : DgS) : Bool := inSc p.1 && okD p.2.1 p.2.2.1
def dgL (p : DgS) : T (LX × DgS) := .br (dgIn p) (.ret (.nrm, (mv p.1 (p.1.i + nDg p.2.1 p.1), p.2.1, dgV p.2.1 p.2.2.1 (p.1.s.drop p.1.i.toNat), p.2.2.2 || decide (0 < nDg p.2.1 p.1)))) .fail
theorem okD_next {b n : Int} {c : UInt8} (h : okD b n = true) (hc : isDg b c = true) : okD b (dgNext b n (c.toNat : Int)) = true := by
  simp only [okD, Bool.and_eq_true, decide_eq_true_eq, Bool.and_true] at h ⊢
  simp only [isDg, Bool.and_eq_true, Bool.not_eq_true', decide_eq_false_iff_not] at hc
  obtain ⟨⟨h1, h2⟩, h3, h4⟩ := h
  have h5 : 0 ≤ n * b := Int.mul_nonneg h3 (by omega)
  have h6 := hc.1
  refine ⟨⟨h1, h2⟩, ?_⟩
  unfold dgNext
  split <;> omega
theorem dig_step (p : DgS) (r : LX × DgS) (h : (dgL p).run = some r) : (∃ s', roundS sm6 114 spD (fun _ => none) 0 (cnD p) = some (.normal, cnD s') ∧ (dgL s').run = some r ∧ (s'.1.s.length - s'.1.i.toNat) < (p.1.s.length - p.1.i.toNat)) ∨ (roundS sm6 114 spD (fun _ => none) 0 (cnD p) = some (.exit 0, cnD r.2) ∧ r.1 = .nrm) := by
  obtain ⟨x, b, n, f⟩ := p
  obtain ⟨hin, h⟩ := br_run h
  injection h with h; subst h
  simp only [dgIn, Bool.and_eq_true] at hin
  obtain ⟨hin, hok⟩ := hin
  have g := inSc_iff.1 hin
  have g0 := g.i0; have g1 := g.i1
  rw [dig_rd, hok, okSc_of g]
  by_cases hlt : x.i < x.s.length
  · have hm : InSc (mv x (x.i + 1)) := mv_in g (by omega) (by omega)
    rw [show decide (x.i < x.s.length) = true from decide_eq_true hlt, show decide (0 ≤ x.i ∧ x.i < x.s.length) = true from decide_eq_true ⟨g0, hlt⟩, okSc_of hm]
    have hd := drop_at (s := x.s) (i := x.i.toNat) (by omega)
    have hb : isDg b (x.s.getD x.i.toNat 0) = (!(decide (b16 (byteA x.s x.i) < 0)) && !(decide (b ≤ b16 (byteA x.s x.i)))) := rfl
    cases hdg : isDg b (x.s.getD x.i.toNat 0) with
    | true =>
      left
      have hn := okD_next hok hdg
      refine ⟨(mv x (x.i + 1), b, dgNext b n (byteA x.s x.i), true), ?_, ?_, ?_⟩
      · have hb' := hb
        rw [hdg] at hb'
        have hb' := hb'.symm
        simp only [Bool.and_eq_true, Bool.not_eq_true'] at hb'
        rw [hb'.1, hb'.2, show okD b (dgNext b n (byteA x.s x.i)) = true from hn]
        rfl
      · unfold dgL dgIn
        rw [show okD b (dgNext b n (byteA x.s x.i)) = true from hn, inSc_iff.2 hm]
        have e1 : nDg b x = nDg b (mv x (x.i + 1)) + 1 := span_in (p := isDg b) g0 hlt hdg
        have e2 : dgV b n (x.s.drop x.i.toNat) = dgV b (dgNext b n (byteA x.s x.i)) ((mv x (x.i + 1)).s.drop (mv x (x.i + 1)).i.toNat) := by
          rw [hd]
          show dgV b n (_ :: _) = dgV b _ (x.s.drop (x.i + 1).toNat)
          rw [show (x.i + 1).toNat = x.i.toNat + 1 by omega]
          simp only [dgV, hdg, cond_true]; rfl
        simp only [T.run, Bool.and_true, cond_true, Option.some.injEq, Prod.mk.injEq, true_and, e1, e2, Bool.true_or]
        refine ⟨?_, ?_⟩
        · have e4 : (mv x (x.i + 1)).i + (nDg b (mv x (x.i + 1)) : Int) = x.i + ((nDg b (mv x (x.i + 1)) + 1 : Nat) : Int) := by
            show x.i + 1 + _ = _
            omega
          rw [e4]; rfl
        · simp
      · show x.s.length - (x.i + 1).toNat < x.s.length - x.i.toNat
        omega
    | false =>
      right
      refine ⟨?_, rfl⟩
      have e1 : nDg b x = 0 := span_out (p := isDg b) g0 hlt hdg
      have e2 : dgV b n (x.s.drop x.i.toNat) = n := by rw [hd]; simp only [dgV, hdg, cond_false]
      have e3 : mv x (x.i + (0 : Nat)) = x := by simp [mv]
      simp only [e1, e2, Nat.lt_irrefl, decide_false, Bool.or_false, e3]
      rw [hdg] at hb
      have hb := hb.symm
      cases h1 : decide (b16 (byteA x.s x.i) < 0) with
      | true => rfl
      | false =>
        rw [h1] at hb
        simp only [Bool.not_false, Bool.true_and, Bool.not_eq_false'] at hb
        rw [hb]; rfl
  · right
    refine ⟨?_, rfl⟩
    have e1 : nDg b x = 0 := span_end (p := isDg b) (s := x.s) (i := x.i) (by omega)
    have e2 : dgV b n (x.s.drop x.i.toNat) = n := by rw [List.drop_eq_nil_of_le (by omega)]; rfl
    have e3 : mv x (x.i + (0 : Nat)) = x := by simp [mv]
    simp only [e1, e2, Nat.lt_irrefl, decide_false, Bool.or_false, e3]
    rw [show decide (x.i < x.s.length) = false from decide_eq_false hlt]; rfl
noncomputable def digH : Nat → Option (St → T (X × St)) := hook1 0 (loopF spD parD cnD dgL)
def dig0 : SFn0 Sc Int Int := mkFn 114 scB (cInj .i64 2 16) (cInj .i64 0 1099511627776) (false, 0, sc0)
/-- Behind the digits. -/
def dgE (b : Int) (x : Sc) : Sc := mv x (x.i + nDg b x)
def atWd (x : Sc) : Bool := decide (x.i < x.s.length) && (letterB (byteA x.s x.i) || digitB (byteA x.s x.i))
def dgP (b : Int) (x : Sc) : Bool := decide (nDg b x = 0) || atWd (dgE b x)
def dgR (b : Int) (x : Sc) : Int := bif dgP b x then 0 else dgV b 0 (x.s.drop x.i.toNat)
def digF : SFn Sc Int Int := ⟨dig0, fun _ b => decide (2 ≤ b) && decide (b ≤ 16), fun x b => (dgP b x, dgR b x, dgE b x)⟩
theorem dig_ev (x : Sc) (b : Int) : dig0.evM (evHook sm6 digH dig0) x b = bif okD b 0 && (okSc x && true) then
    bif dgIn (x, b, 0, false) then
      bif !(false || decide (0 < nDg b x)) then bif inSc (dgE b x) && true then some (true, 0, dgE b x) else none
      else bif decide ((dgE b x).i < x.s.length) then
        bif decide (0 ≤ (dgE b x).i ∧ (dgE b x).i < x.s.length) then
          bif letterB (byteA x.s (dgE b x).i) then bif inSc (dgE b x) && true then some (true, 0, dgE b x) else none
          else bif decide (0 ≤ (dgE b x).i ∧ (dgE b x).i < x.s.length) then
            bif digitB (byteA x.s (dgE b x).i) then bif inSc (dgE b x) && true then some (true, 0, dgE b x) else none
            else bif inSc (dgE b x) && true then some (false, dgV b 0 (x.s.drop x.i.toNat), dgE b x) else none
          else none
        else none
      else bif inSc (dgE b x) && true then some (false, dgV b 0 (x.s.drop x.i.toNat), dgE b x) else none
    else none
  else none := by kernel_rfl
theorem dgE_in {x : Sc} (h : InSc x) (b : Int) : InSc (dgE b x) := mv_in h (by have := h.i0; omega) (span_le h.i0 h.i1)
theorem dig_at : SumAt 114 digF.sum := SFn.sound (ev := evHook sm6 digH dig0) (mkFn_ok (evHook_at sm6_ok (s := dig0) (by kernel_rfl) (by kernel_rfl) (hook_ok sm6_ok (by decide) (μ := fun p => p.1.s.length - p.1.i.toNat) (by kernel_rfl) parD_eq fun x r h => loop2 (dig_step x r h))) fun x b hx _ hb => by
  have hx : inSc x = true := hx
  have hb : (decide (2 ≤ b) && decide (b ≤ 16)) = true := hb
  have g := inSc_iff.1 hx
  have ge := dgE_in g b
  have okd : okD b 0 = true := by unfold okD; rw [hb]; rfl
  refine (dig_ev x b).trans ?_
  rw [okd, okSc_of g, show dgIn (x, b, 0, false) = true by unfold dgIn; rw [hx]; exact okd, inSc_iff.2 ge]
  have e0 := ge.i0
  have es : (dgE b x).s = x.s := rfl
  show _ = some (dgP b x, dgR b x, dgE b x)
  have key : ∀ q : Bool, dgP b x = q → some (dgP b x, dgR b x, dgE b x) = some (q, (bif q then 0 else dgV b 0 (x.s.drop x.i.toNat)), dgE b x) := fun q h => by
    unfold dgR; rw [h]
  by_cases hn : nDg b x = 0
  · rw [key true (by unfold dgP; rw [decide_eq_true hn]; rfl), hn]; rfl
  · have hn' : (!(false || decide (0 < nDg b x))) = false := by simp; omega
    rw [hn']
    have hP : dgP b x = atWd (dgE b x) := by unfold dgP; rw [decide_eq_false hn]; rfl
    by_cases hlt : (dgE b x).i < x.s.length
    · have hP2 : dgP b x = (letterB (byteA x.s (dgE b x).i) || digitB (byteA x.s (dgE b x).i)) := by
        rw [hP]; unfold atWd; rw [es, decide_eq_true hlt]; rfl
      rw [decide_eq_true hlt, show decide (0 ≤ (dgE b x).i ∧ (dgE b x).i < x.s.length) = true from decide_eq_true ⟨e0, hlt⟩]
      cases h1 : letterB (byteA x.s (dgE b x).i) with
      | true => rw [key true (by rw [hP2, h1]; rfl)]; rfl
      | false => cases h2 : digitB (byteA x.s (dgE b x).i) with
        | true => rw [key true (by rw [hP2, h1, h2]; rfl)]; rfl
        | false => rw [key false (by rw [hP2, h1, h2]; rfl)]; rfl
    · rw [key false (by rw [hP]; unfold atWd; rw [es, decide_eq_false hlt]; rfl), decide_eq_false hlt]; rfl)
end Go.Proofs.YtlmacdfbdhpljaaGreatDoor

namespace Go.Proofs.YtlmacdfbdhpljaaGreatDoor
open Go.Ev Go.Ev.Tr Go.Proofs
set_option maxRecDepth 1000000
noncomputable def sm7 (f : Nat) : Option Summ := match Nat.beq f 114 with
  | true => some digF.sum
  | false => sm6 f
theorem sm7_ok : ∀ f s, sm7 f = some s → SumAt f s := sm_cons sm6_ok dig_at
/-! ### a byte in quotes -/
def chBad (x : Sc) : Bool := (x.i + 1 == x.s.length) || (byteA x.s (x.i + 1) == 10 || byteA x.s (x.i + 1) == 39)
def chEnd (x : Sc) : Bool := !(x.i + 2 == x.s.length) && byteA x.s (x.i + 2) == 39
def chP (x : Sc) : Bool := chBad x || !chEnd x
def chV (x : Sc) : Int := bif chP x then 0 else byteA x.s (x.i + 1)
def chI (x : Sc) : Int := bif chBad x then x.i + 1 else bif chEnd x then x.i + 3 else x.i + 2
def chF : SFn Sc Unit Int := ⟨char0, fun x _ => decide (x.i < x.s.length), fun x _ => (chP x, chV x, mv x (chI x))⟩
def chPk (x : Sc) : Int := bif x.i + 1 == x.s.length then 0 else byteA x.s (x.i + 1)
theorem ch_ev (x : Sc) : char0.evM (evOf (callS sm7) char0) x () = bif inSc (mv x (x.i + 1)) && true then
    bif x.i + 1 == x.s.length then bif inSc (mv x (x.i + 1)) && true then some (true, 0, mv x (x.i + 1)) else none
    else bif chPk x == 10 then bif inSc (mv x (x.i + 1)) && true then some (true, 0, mv x (x.i + 1)) else none
    else bif chPk x == 39 then bif inSc (mv x (x.i + 1)) && true then some (true, 0, mv x (x.i + 1)) else none
    else bif decide (0 ≤ x.i + 1 ∧ x.i + 1 < x.s.length) then
      bif x.i + 1 + 1 == x.s.length then bif inSc (mv x (x.i + 1 + 1)) && true then some (true, 0, mv x (x.i + 1 + 1)) else none
      else bif decide (0 ≤ x.i + 1 + 1 ∧ x.i + 1 + 1 < x.s.length) then
        bif !(byteA x.s (x.i + 1 + 1) == 39) then bif inSc (mv x (x.i + 1 + 1)) && true then some (true, 0, mv x (x.i + 1 + 1)) else none
        else bif inSc (mv x (x.i + 1 + 1 + 1)) && true then some (false, byteA x.s (x.i + 1), mv x (x.i + 1 + 1 + 1)) else none
      else none
    else none
  else none := by kernel_rfl
theorem ch_at : SumAt 115 chF.sum := fn_at (callSOK sm7_ok) fun x a hx _ hp => by
  have hx : inSc x = true := hx
  have hp : x.i < x.s.length := of_decide_eq_true hp
  have g := inSc_iff.1 hx
  have g0 := g.i0
  have m1 : inSc (mv x (x.i + 1)) = true := inSc_iff.2 (mv_in g (by omega) (by omega))
  refine (ch_ev x).trans ?_
  show _ = some (chP x, chV x, mv x (chI x))
  rw [m1]
  have e2 : x.i + 1 + 1 = x.i + 2 := by omega
  have e3 : x.i + 2 + 1 = x.i + 3 := by omega
  rw [e2, e3]
  have bad : chBad x = true → some (chP x, chV x, mv x (chI x)) = some (true, 0, mv x (x.i + 1)) := fun h => by
    have hP : chP x = true := by unfold chP; rw [h]; rfl
    unfold chV chI; rw [hP, h]; rfl
  cases h1 : (x.i + 1 == (x.s.length : Int)) with
  | true => rw [bad (by unfold chBad; rw [h1]; rfl)]; rfl
  | false =>
    have hne : x.i + 1 < x.s.length := by
      have : x.i + 1 ≠ x.s.length := by simpa using h1
      omega
    have epk : chPk x = byteA x.s (x.i + 1) := by unfold chPk; rw [h1]; rfl
    rw [epk]
    cases h2 : byteA x.s (x.i + 1) == 10 with
    | true => rw [bad (by unfold chBad; rw [h2]; simp)]; rfl
    | false =>
      cases h3 : byteA x.s (x.i + 1) == 39 with
      | true => rw [bad (by unfold chBad; rw [h3]; simp)]; rfl
      | false =>
        have hb : chBad x = false := by unfold chBad; rw [h1, h2, h3]; rfl
        rw [show decide (0 ≤ x.i + 1 ∧ x.i + 1 < x.s.length) = true from decide_eq_true ⟨by omega, hne⟩]
        have noEnd : chEnd x = false → some (chP x, chV x, mv x (chI x)) = some (true, 0, mv x (x.i + 2)) := fun h => by
          have hP : chP x = true := by unfold chP; rw [hb, h]; rfl
          unfold chV chI; rw [hP, hb, h]; rfl
        have m2 : inSc (mv x (x.i + 2)) = true := inSc_iff.2 (mv_in g (by omega) (by omega))
        cases h4 : (x.i + 2 == (x.s.length : Int)) with
        | true => rw [noEnd (by unfold chEnd; rw [h4]; rfl), m2]; rfl
        | false =>
          have hne2 : x.i + 2 < x.s.length := by
            have : x.i + 2 ≠ x.s.length := by simpa using h4
            omega
          have m3 : inSc (mv x (x.i + 3)) = true := inSc_iff.2 (mv_in g (by omega) (by omega))
          rw [show decide (0 ≤ x.i + 2 ∧ x.i + 2 < x.s.length) = true from decide_eq_true ⟨by omega, hne2⟩, m2, m3]
          cases h5 : byteA x.s (x.i + 2) == 39 with
          | false => rw [noEnd (by unfold chEnd; rw [h4, h5]; rfl)]; rfl
          | true =>
            have he : chEnd x = true := by unfold chEnd; rw [h4, h5]; rfl
            have hP : chP x = false := by unfold chP; rw [hb, he]; rfl
            unfold chV chI
            rw [hP, hb, he]; rfl
/-! ### a sign -/
/-- What comes from a place on. -/
def restS (s : List UInt8) (i : Int) : List UInt8 := List.drop i.toNat (List.take ((s.length : Int)).toNat s)
theorem restS_len (s : List UInt8) {i : Int} (h : 0 ≤ i) (h1 : i ≤ s.length) : ((restS s i).length : Int) = s.length - i := by
  unfold restS
  rw [List.length_drop, List.length_take]; omega
def sgB (x : Sc) (w : List UInt8) : Bool := decide ((w.length : Int) ≤ (restS x.s (afterBl x)).length) && bytesEq (List.drop 0 (List.take (w.length : Int).toNat (restS x.s (afterBl x)))) w
def sgI (x : Sc) (w : List UInt8) : Int := bif sgB x w then afterBl x + w.length else x.i
def sgF : SFn Sc (List UInt8) Bool := ⟨sign0, fun _ _ => true, fun x w => (false, sgB x w, mv x (sgI x w))⟩
theorem sg_ev (x : Sc) (w : List UInt8) : sign0.evM (evOf (callS sm7) sign0) x w = bif inSc x && true then
    bif decide (afterBl x ≤ x.s.length ∧ (x.s.length : Int) ≤ x.s.length) then
      bif decide ((w.length : Int) ≤ (restS x.s (afterBl x)).length) then
        bif decide (0 ≤ (w.length : Int) ∧ (w.length : Int) ≤ (restS x.s (afterBl x)).length) then
          bif !(bytesEq (List.drop 0 (List.take (w.length : Int).toNat (restS x.s (afterBl x)))) w) then bif inSc x && true then some (false, false, x) else none
          else bif inSc (mv x (afterBl x + w.length)) && true then some (false, true, mv x (afterBl x + w.length)) else none
        else none
      else bif inSc x && true then some (false, false, x) else none
    else none
  else none := by kernel_rfl
theorem sgI_in {x : Sc} (g : InSc x) (w : List UInt8) : InSc (mv x (sgI x w)) := by
  have b := afterBl_le g
  have g0 := g.i0; have g1 := g.i1
  have hl := restS_len x.s (i := afterBl x) (by omega) b.2
  cases h : sgB x w with
  | false => unfold sgI; rw [h]; exact g
  | true =>
    have h' := h
    unfold sgB at h'
    simp only [Bool.and_eq_true, decide_eq_true_eq] at h'
    have := h'.1
    unfold sgI; rw [h]
    exact mv_in g (by simp only [cond_true]; omega) (by simp only [cond_true]; omega)
theorem sg_at : SumAt 232 sgF.sum := fn_at (callSOK sm7_ok) fun x w hx _ _ => by
  have hx : inSc x = true := hx
  have g := inSc_iff.1 hx
  have b := afterBl_le g
  have hin := inSc_iff.2 (sgI_in g w)
  refine (sg_ev x w).trans ?_
  show _ = some (false, sgB x w, mv x (sgI x w))
  rw [hx, show decide (afterBl x ≤ x.s.length ∧ (x.s.length : Int) ≤ x.s.length) = true from decide_eq_true ⟨b.2, Int.le_refl _⟩]
  have e : ∀ q, sgB x w = q → some (false, sgB x w, mv x (sgI x w)) = some (false, q, mv x (bif q then afterBl x + w.length else x.i)) ∧ inSc (mv x (bif q then afterBl x + w.length else x.i)) = true := fun q h => by
    unfold sgI at hin ⊢; rw [h] at hin ⊢; exact ⟨rfl, hin⟩
  by_cases h1 : (w.length : Int) ≤ (restS x.s (afterBl x)).length
  · rw [decide_eq_true h1, show decide (0 ≤ (w.length : Int) ∧ (w.length : Int) ≤ (restS x.s (afterBl x)).length) = true from decide_eq_true ⟨by omega, h1⟩]
    cases h2 : bytesEq (List.drop 0 (List.take (w.length : Int).toNat (restS x.s (afterBl x)))) w with
    | true =>
      obtain ⟨e1, e2⟩ := e true (by unfold sgB; rw [decide_eq_true h1, h2]; rfl)
      rw [e1]
      simp only [cond_true] at e2
      rw [e2]; rfl
    | false =>
      obtain ⟨e1, e2⟩ := e false (by unfold sgB; rw [h2, Bool.and_false])
      rw [e1]; rfl
  · obtain ⟨e1, e2⟩ := e false (by unfold sgB; rw [decide_eq_false h1]; rfl)
    rw [decide_eq_false h1, e1]; rfl
/-! ### a text -/
def txQ (x : Sc) : Bool := peekM (mv x (afterBl x)) == 34
def txK (x : Sc) : Int := Lib.indexByte (restS x.s (afterBl x + 1)) 34
def txB (x : Sc) : Bool := txQ x && !(decide (txK x < 0))
def txP (x : Sc) : Bool := txQ x && decide (txK x < 0)
def txV (x : Sc) : List UInt8 := bif txB x then subS x.s (afterBl x + 1) (afterBl x + 1 + txK x) else []
def txI (x : Sc) : Int := bif txB x then afterBl x + (txK x + 2) else afterBl x
def txF : SFn Sc Unit (List UInt8 × Bool) := ⟨text0, fun _ _ => true, fun x _ => (txP x, (txV x, txB x), mv x (txI x))⟩
theorem tx_ev (x : Sc) : text0.evM (evOf (callS sm7) text0) x () = bif inSc x && true then
    bif inSc (mv x (afterBl x)) && true then
      bif !(peekM (mv x (afterBl x)) == 34) then bif inSc (mv x (afterBl x)) && okCs [KS.s, KS.b] [SV.s [], SV.b false] then some (false, ([], false), mv x (afterBl x)) else none
      else bif decide (afterBl x + 1 ≤ x.s.length ∧ (x.s.length : Int) ≤ x.s.length) then
        bif decide (txK x < 0) then bif inSc (mv x (afterBl x)) && okCs [KS.s, KS.b] [SV.s [], SV.b false] then some (true, ([], false), mv x (afterBl x)) else none
        else bif decide (afterBl x + 1 ≤ afterBl x + 1 + txK x ∧ afterBl x + 1 + txK x ≤ x.s.length) then
          bif inSc (mv x (afterBl x + (txK x + 2))) && okCs [KS.s, KS.b] [SV.s (subS x.s (afterBl x + 1) (afterBl x + 1 + txK x)), SV.b true] then
            some (false, (subS x.s (afterBl x + 1) (afterBl x + 1 + txK x), true), mv x (afterBl x + (txK x + 2)))
          else none
        else none
      else none
    else none
  else none := by kernel_rfl
theorem okSB {l : List UInt8} {b : Bool} (h : l.length ≤ 281474976710656) : okCs [KS.s, KS.b] [SV.s l, SV.b b] = true := by
  simp only [okCs, okK, Bool.and_true]
  exact decide_eq_true h
theorem tx_lt {x : Sc} (g : InSc x) (h : txQ x = true) : afterBl x < x.s.length := by
  have b := afterBl_le g
  unfold txQ peekM at h
  cases he : ((mv x (afterBl x)).i == ((mv x (afterBl x)).s.length : Int)) with
  | true => rw [he] at h; cases h
  | false =>
    have he : (afterBl x == (x.s.length : Int)) = false := he
    have : afterBl x ≠ x.s.length := by simpa using he
    omega
theorem txK_lt {x : Sc} (g : InSc x) (h : txQ x = true) (hk : ¬ txK x < 0) : afterBl x + 1 + txK x < x.s.length := by
  have b := afterBl_le g
  have hl := tx_lt g h
  have g0 := g.i0
  have hr := restS_len x.s (i := afterBl x + 1) (by omega) (by omega)
  have hi := indexByte_lt (restS x.s (afterBl x + 1)) 34
  unfold txK at hk ⊢
  omega
theorem txI_in {x : Sc} (g : InSc x) : InSc (mv x (txI x)) := by
  have b := afterBl_le g
  have g0 := g.i0
  cases h : txB x with
  | false => unfold txI; rw [h]; exact afterBl_in g
  | true =>
    have h' := h
    unfold txB at h'
    simp only [Bool.and_eq_true, Bool.not_eq_true', decide_eq_false_iff_not] at h'
    have := txK_lt g h'.1 h'.2
    unfold txI; rw [h]
    exact mv_in g (by simp only [cond_true]; omega) (by simp only [cond_true]; omega)
theorem tx_at : SumAt 209 txF.sum := fn_at (callSOK sm7_ok) fun x a hx _ _ => by
  have hx : inSc x = true := hx
  have g := inSc_iff.1 hx
  have b := afterBl_le g
  have g2 := g.s
  have hin := inSc_iff.2 (txI_in g)
  have hin0 := inSc_iff.2 (afterBl_in g)
  refine (tx_ev x).trans ?_
  show _ = some (txP x, (txV x, txB x), mv x (txI x))
  rw [hx, hin0, okSB (l := []) (by simp)]
  cases hq : txQ x with
  | false =>
    have hq' : (peekM (mv x (afterBl x)) == 34) = false := hq
    have hB : txB x = false := by unfold txB; rw [hq]; rfl
    have hP : txP x = false := by unfold txP; rw [hq]; rfl
    unfold txV txI
    rw [hq', hB, hP]; rfl
  | true =>
    have hq' : (peekM (mv x (afterBl x)) == 34) = true := hq
    have hl := tx_lt g hq
    rw [hq', show decide (afterBl x + 1 ≤ x.s.length ∧ (x.s.length : Int) ≤ x.s.length) = true from decide_eq_true ⟨by omega, Int.le_refl _⟩]
    by_cases hk : txK x < 0
    · have hB : txB x = false := by unfold txB; rw [decide_eq_true hk, Bool.not_true, Bool.and_false]
      have hP : txP x = true := by unfold txP; rw [hq, decide_eq_true hk]; rfl
      unfold txV txI
      rw [hB, hP, decide_eq_true hk]; rfl
    · have hB : txB x = true := by unfold txB; rw [hq, decide_eq_false hk]; rfl
      have hP : txP x = false := by unfold txP; rw [decide_eq_false hk, Bool.and_false]
      have hlt := txK_lt g hq hk
      have hin' : inSc (mv x (afterBl x + (txK x + 2))) = true := by
        have := hin
        unfold txI at this; rw [hB] at this; exact this
      have hs := subS_len x.s (afterBl x + 1) (afterBl x + 1 + txK x)
      unfold txV txI
      rw [hB, hP, decide_eq_false hk, show decide (afterBl x + 1 ≤ afterBl x + 1 + txK x ∧ afterBl x + 1 + txK x ≤ x.s.length) = true from decide_eq_true ⟨by omega, by omega⟩, hin', okSB (by omega)]
      rfl
end Go.Proofs.YtlmacdfbdhpljaaGreatDoor
