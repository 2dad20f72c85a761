/- Own text: the scanner's small functions. -/
import Derived.Test.YtlmacdfbdhpljaaGreatDoorSc
namespace Go.Proofs.YtlmacdfbdhpljaaGreatDoor
open Go.Ev Go.Ev.Tr Go.Proofs
set_option maxRecDepth 1000000
theorem run_at {σ A α : Type} {call : CallF} (hc : CallOK Tryz.prog 6 call) {f : Nat} {bc : BCod σ} {ac : Cod A} {rc : Cod α} {dflt : Bool × α × σ} (x : σ) (a : A) : EvAt f (ptrArgs 6 bc.ks.length ++ encCs ac.ks (ac.cn a)) (hpL 6 1000000 (encBl0 bc.ks (bc.cn x))) (evOf call (mkFn f bc ac rc dflt) x a) := evAt_call hc _ _ _
/-- A function without told loops. -/
theorem fn_at {σ A α : Type} {call : CallF} (hc : CallOK Tryz.prog 6 call) {f : Nat} {bc : BCod σ} {ac : Cod A} {rc : Cod α} {dflt : Bool × α × σ} {pre : σ → A → Bool} {m : σ → A → Bool × α × σ}
    (run : ∀ x a, bc.ok x = true → okCs ac.ks (ac.cn a) = true → pre x a = true → (mkFn f bc ac rc dflt).evM (evOf call (mkFn f bc ac rc dflt)) x a = some (m x a)) : SumAt f (SFn.mk (mkFn f bc ac rc dflt) pre m).sum :=
  SFn.sound (mkFn_ok (fun x a => run_at hc x a) run)
theorem okI {k : IntKind} {lo hi n : Int} (h : okCs (cInt k lo hi).ks ((cInt k lo hi).cn n) = true) : lo ≤ n ∧ n ≤ hi := by
  simp only [cInt, cOne, okCs, okK, Bool.and_true, Bool.and_eq_true, decide_eq_true_eq] at h
  exact h
/-! ### letters, digits -/
def letter0 : SFn0 Unit Int Bool := mkFn 161 nilB (cInj .u8 0 255) cBool (false, false, ())
def letterB (c : Int) : Bool := (decide (97 ≤ c) && decide (c ≤ 122)) || ((decide (65 ≤ c) && decide (c ≤ 90)) || c == 95)
def letterF : SFn Unit Int Bool := ⟨letter0, fun _ _ => true, fun _ c => (false, letterB c, ())⟩
theorem letter_ev (c : Int) : letter0.evM (evOf call1 letter0) () c = (bif decide (97 ≤ c) then
    bif decide (c ≤ 122) then some (false, true, ())
    else bif decide (65 ≤ c) then bif decide (c ≤ 90) then some (false, true, ()) else some (false, c == 95, ()) else some (false, c == 95, ())
  else bif decide (65 ≤ c) then bif decide (c ≤ 90) then some (false, true, ()) else some (false, c == 95, ()) else some (false, c == 95, ())) := by kernel_rfl
theorem letter_at : SumAt 161 letterF.sum := fn_at call1OK fun _ c _ _ _ => by
  refine (letter_ev c).trans ?_
  unfold letterB
  cases decide (97 ≤ c) <;> cases decide (c ≤ 122) <;> cases decide (65 ≤ c) <;> cases decide (c ≤ 90) <;> rfl
def digit0 : SFn0 Unit Int Bool := mkFn 113 nilB (cInj .u8 0 255) cBool (false, false, ())
def digitB (c : Int) : Bool := decide (48 ≤ c) && decide (c ≤ 57)
def digitF : SFn Unit Int Bool := ⟨digit0, fun _ _ => true, fun _ c => (false, digitB c, ())⟩
theorem digit_ev (c : Int) : digit0.evM (evOf call1 digit0) () c = bif decide (48 ≤ c) then some (false, decide (c ≤ 57), ()) else some (false, false, ()) := by kernel_rfl
theorem digit_at : SumAt 113 digitF.sum := fn_at call1OK fun _ c _ _ _ => by
  refine (digit_ev c).trans ?_
  unfold digitB
  cases decide (48 ≤ c) <;> cases decide (c ≤ 57) <;> rfl
/-! ### peek -/
/-- The byte at a place. -/
def byteA (s : List UInt8) (i : Int) : Int := ((s.getD i.toNat 0).toNat : Int)
theorem byteA_le (s : List UInt8) (i : Int) : 0 ≤ byteA s i ∧ byteA s i ≤ 255 := by
  unfold byteA
  have := (s.getD i.toNat 0).toNat_lt
  omega
def peek0 : SFn0 Sc Unit Int := mkFn 112 scB cUnit (cInj .u8 0 255) (false, 0, sc0)
def peekM (x : Sc) : Int := bif x.i == x.s.length then 0 else byteA x.s x.i
def peekF : SFn Sc Unit Int := ⟨peek0, fun _ _ => true, fun x _ => (false, peekM x, x)⟩
theorem peek_ev (x : Sc) : peek0.evM (evOf call1 peek0) x () = bif x.i == Int.ofNat x.s.length then
    bif inSc x && true then some (false, 0, x) else none
  else bif decide (0 ≤ x.i ∧ x.i < x.s.length) then
    bif inSc x && true then some (false, byteA x.s x.i, x) else none
  else none := by kernel_rfl
theorem peek_at : SumAt 112 peekF.sum := fn_at call1OK fun x a hx _ _ => by
  have hx : inSc x = true := hx
  have g := inSc_iff.1 hx
  have g0 := g.i0; have g1 := g.i1
  refine (peek_ev x).trans ?_
  unfold peekM
  rw [hx]
  rw [show decide (0 ≤ x.i ∧ x.i < x.s.length) = !(x.i == Int.ofNat x.s.length) by
    have e : (Int.ofNat x.s.length) = (x.s.length : Int) := rfl
    rw [e]
    by_cases h : x.i = x.s.length
    · simp [h]
    · have : 0 ≤ x.i ∧ x.i < x.s.length := ⟨g0, by omega⟩
      simp [h, this]]
  have e : (x.i == (x.s.length : Int)) = (x.i == Int.ofNat x.s.length) := rfl
  rw [e]
  cases x.i == Int.ofNat x.s.length <;> rfl
noncomputable def sm2 (f : Nat) : Option Summ := match Nat.beq f 161 with
  | true => some letterF.sum
  | false => match Nat.beq f 113 with
    | true => some digitF.sum
    | false => match Nat.beq f 112 with
      | true => some peekF.sum
      | false => sm1 f
theorem sm_cons {sm : Nat → Option Summ} (h : ∀ f s, sm f = some s → SumAt f s) {k : Nat} {t : Summ} (hk : SumAt k t) : ∀ f s, (match Nat.beq f k with
  | true => some t
  | false => sm f) = some s → SumAt f s := by
  intro f s hs
  split at hs
  · rename_i e
    have e := Nat.eq_of_beq_eq_true e
    subst e
    injection hs with hs; subst hs; exact hk
  · exact h f s hs
theorem sm2_ok : ∀ f s, sm2 f = some s → SumAt f s := sm_cons (sm_cons (sm_cons sm1_ok peek_at) digit_at) letter_at
/-! ### how far a kind of bytes goes -/
def spanN (p : UInt8 → Bool) : List UInt8 → Nat
  | [] => 0
  | c :: r => bif p c then spanN p r + 1 else 0
theorem spanN_le (p : UInt8 → Bool) : ∀ l : List UInt8, spanN p l ≤ l.length
  | [] => Nat.le_refl _
  | c :: r => by
    unfold spanN
    have := spanN_le p r
    cases p c <;> simp <;> omega
theorem drop_at {s : List UInt8} {i : Nat} (h : i < s.length) : s.drop i = s.getD i 0 :: s.drop (i + 1) := by
  rw [List.drop_eq_getElem_cons h]
  simp [List.getD_eq_getElem?_getD, List.getElem?_eq_getElem h]
theorem span_in {p : UInt8 → Bool} {s : List UInt8} {i : Int} (h0 : 0 ≤ i) (h1 : i < s.length) (hp : p (s.getD i.toNat 0) = true) : spanN p (s.drop i.toNat) = spanN p (s.drop (i + 1).toNat) + 1 := by
  rw [drop_at (by omega), show (i + 1).toNat = i.toNat + 1 by omega]
  simp only [spanN, hp, cond_true]
theorem span_out {p : UInt8 → Bool} {s : List UInt8} {i : Int} (h0 : 0 ≤ i) (h1 : i < s.length) (hp : p (s.getD i.toNat 0) = false) : spanN p (s.drop i.toNat) = 0 := by
  rw [drop_at (by omega)]
  simp only [spanN, hp, cond_false]
theorem span_end {p : UInt8 → Bool} {s : List UInt8} {i : Int} (h1 : (s.length : Int) ≤ i) : spanN p (s.drop i.toNat) = 0 := by
  rw [List.drop_eq_nil_of_le (by omega)]; rfl
theorem span_le {p : UInt8 → Bool} {s : List UInt8} {i : Int} (h0 : 0 ≤ i) (h1 : i ≤ s.length) : i + spanN p (s.drop i.toNat) ≤ s.length := by
  have := spanN_le p (s.drop i.toNat)
  rw [List.length_drop] at this
  omega
/-- The place moves. -/
def mv (x : Sc) (i : Int) : Sc := { x with i := i }
theorem mv_in {x : Sc} (h : InSc x) {i : Int} (h0 : 0 ≤ i) (h1 : i ≤ x.s.length) : InSc (mv x i) := ⟨h0, h1, h.s, h.o0, h.o1, h.scope⟩
/-! ### blanks -/
def isBl (c : UInt8) : Bool := ((c.toNat : Int) == 32) || ((c.toNat : Int) == 9)
def afterBl (x : Sc) : Int := x.i + spanN isBl (x.s.drop x.i.toNat)
def blanks0 : SFn0 Sc Unit Unit := mkFn 39 scB cUnit cUnit (false, (), sc0)
def blanksF : SFn Sc Unit Unit := ⟨blanks0, fun _ _ => true, fun x _ => (false, (), mv x (afterBl x))⟩
def cn0 (x : Sc) : SD := ([.nul], [scCn x])
def par0 : SD → Option Sc
  | ([.nul], [u]) => scPar u
  | _ => none
theorem par0_eq (d : SD) (x : Sc) (h : par0 d = some x) : d = cn0 x := by
  unfold par0 at h
  split at h
  · rw [scPar_eq h]; rfl
  · cases h
theorem blanks_rd (x : Sc) : roundS sm2 39 (scSp []) (fun _ => none) 0 (cn0 x) = bif decide (x.i < Int.ofNat x.s.length) then
    bif decide (0 ≤ x.i ∧ x.i < x.s.length) then
      bif byteA x.s x.i == 32 then bif okCs scKs (scCn (mv x (x.i + 1))) && true then some (.normal, cn0 (mv x (x.i + 1))) else none
      else bif decide (0 ≤ x.i ∧ x.i < x.s.length) then
        bif byteA x.s x.i == 9 then bif okCs scKs (scCn (mv x (x.i + 1))) && true then some (.normal, cn0 (mv x (x.i + 1))) else none
        else bif okCs scKs (scCn x) && true then some (.exit 0, cn0 x) else none
      else none
    else none
  else bif okCs scKs (scCn x) && true then some (.exit 0, cn0 x) else none := by kernel_rfl
def blanksL (x : Sc) : T (LX × Sc) := .br (inSc x) (.ret (.nrm, mv x (afterBl x))) .fail
theorem br_run {α : Type} {b : Bool} {t : T α} {r : α} (h : (T.br b t .fail).run = some r) : b = true ∧ t.run = some r := by
  simp only [T.run] at h
  cases b with
  | true => exact ⟨rfl, h⟩
  | false => cases h
theorem blanks_step (x : Sc) (r : LX × Sc) (h : (blanksL x).run = some r) : (∃ s', roundS sm2 39 (scSp []) (fun _ => none) 0 (cn0 x) = some (.normal, cn0 s') ∧ (blanksL s').run = some r ∧ (s'.s.length - s'.i.toNat) < (x.s.length - x.i.toNat)) ∨ (roundS sm2 39 (scSp []) (fun _ => none) 0 (cn0 x) = some (.exit 0, cn0 r.2) ∧ r.1 = .nrm) := by
  obtain ⟨hin, h⟩ := br_run h
  injection h with h; subst h
  have g := inSc_iff.1 hin
  have g0 := g.i0; have g1 := g.i1
  rw [blanks_rd]
  by_cases hlt : x.i < x.s.length
  · have hm : InSc (mv x (x.i + 1)) := mv_in g (by omega) (by omega)
    rw [show decide (x.i < Int.ofNat x.s.length) = true from decide_eq_true hlt, show decide (0 ≤ x.i ∧ x.i < x.s.length) = true from decide_eq_true ⟨g0, hlt⟩, scOk hin, scOk (inSc_iff.2 hm)]
    simp only [cond_true, Bool.and_true]
    cases hb : isBl (x.s.getD x.i.toNat 0) with
    | true =>
      left
      refine ⟨mv x (x.i + 1), ?_, ?_, ?_⟩
      · unfold isBl at hb
        simp only [byteA]
        cases h1 : ((x.s.getD x.i.toNat 0).toNat : Int) == 32 with
        | true => rfl
        | false =>
          rw [h1] at hb
          simp only [Bool.false_or] at hb
          rw [hb]; rfl
      · unfold blanksL
        rw [inSc_iff.2 hm]
        simp only [T.run, cond_true, Option.some.injEq, Prod.mk.injEq, true_and]
        simp only [mv, afterBl]
        rw [span_in (p := isBl) g0 hlt hb]
        congr 1; omega
      · show x.s.length - (x.i + 1).toNat < x.s.length - x.i.toNat
        omega
    | false =>
      right
      refine ⟨?_, trivial⟩
      unfold isBl at hb
      simp only [Bool.or_eq_false_iff] at hb
      simp only [byteA, hb.1, hb.2, cond_false]
      have e : mv x (afterBl x) = x := by
        simp only [mv, afterBl, span_out (p := isBl) g0 hlt (by unfold isBl; rw [hb.1, hb.2]; rfl)]
        simp
      rw [e]
  · right
    refine ⟨?_, rfl⟩
    rw [show decide (x.i < Int.ofNat x.s.length) = false from decide_eq_false hlt, scOk hin]
    have e : mv x (afterBl x) = x := by
      simp only [mv, afterBl, span_end (p := isBl) (s := x.s) (i := x.i) (by omega)]
      simp
    rw [e]; rfl
noncomputable def blanksH : Nat → Option (St → T (X × St)) := hook1 0 (loopF (scSp []) par0 cn0 blanksL)
theorem blanks_ev (x : Sc) : blanks0.evM (evHook sm2 blanksH blanks0) x () = bif okCs scKs (scCn x) && true then bif inSc x then bif inSc (mv x (afterBl x)) && true then some (false, (), mv x (afterBl x)) else none else none else none := by kernel_rfl
theorem loop2 {σ : Type} {A B C D : Prop} (h : A ∨ B) : A ∨ B ∨ C ∨ D := h.imp id .inl
theorem afterBl_in {x : Sc} (h : InSc x) : InSc (mv x (afterBl x)) := by
  have h0 := h.i0
  exact mv_in h (by unfold afterBl; omega) (span_le h.i0 h.i1)
theorem blanks_at : SumAt 39 blanksF.sum := SFn.sound (ev := evHook sm2 blanksH blanks0) (mkFn_ok (evHook_at sm2_ok (s := blanks0) (by kernel_rfl) (by kernel_rfl) (hook_ok sm2_ok (by decide) (μ := fun x => x.s.length - x.i.toNat) (by kernel_rfl) par0_eq fun x r h => loop2 (σ := Sc) (blanks_step x r h))) fun x a hx _ _ => by
  have hx : inSc x = true := hx
  refine (blanks_ev x).trans ?_
  rw [scOk hx, hx, inSc_iff.2 (afterBl_in (inSc_iff.1 hx))]; rfl)
end Go.Proofs.YtlmacdfbdhpljaaGreatDoor
