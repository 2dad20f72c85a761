/- Own text: keywords, ends, signs of a scanner. -/
import Derived.Test.YtlmacdfbdhpljaaGreatDoorSe
namespace Go.Proofs.YtlmacdfbdhpljaaGreatDoor
open Go.Ev Go.Ev.Tr Go.Proofs
set_option maxRecDepth 1000000
noncomputable def sm3 (f : Nat) : Option Summ := match Nat.beq f 39 with
  | true => some blanksF.sum
  | false => match Nat.beq f 163 with
    | true => some wordF.sum
    | false => sm2 f
theorem sm3_ok : ∀ f s, sm3 f = some s → SumAt f s := sm_cons (sm_cons sm2_ok word_at) blanks_at
/-! ### loops that go on while bytes are of a kind -/
def orP (p q : Int → Bool) (c : UInt8) : Bool := p (c.toNat : Int) || q (c.toNat : Int)
/-- Their round. -/
def spanTree {R : Type} (p q : Int → Bool) (ok : R → Bool) (cn : Sc × R → SD) (k : Nat) (x : Sc) (r : R) : Option (X × SD) :=
  bif decide (x.i < x.s.length) then
    bif decide (0 ≤ x.i ∧ x.i < x.s.length) then
      bif p (byteA x.s x.i) then bif ok r && (okSc (mv x (x.i + 1)) && true) then some (.normal, cn (mv x (x.i + 1), r)) else none
      else bif decide (0 ≤ x.i ∧ x.i < x.s.length) then
        bif q (byteA x.s x.i) then bif ok r && (okSc (mv x (x.i + 1)) && true) then some (.normal, cn (mv x (x.i + 1), r)) else none
        else bif ok r && (okSc x && true) then some (.exit k, cn (x, r)) else none
      else none
    else none
  else bif ok r && (okSc x && true) then some (.exit k, cn (x, r)) else none
def spanL {R : Type} (p q : Int → Bool) (ok : R → Bool) (z : Sc × R) : T (LX × (Sc × R)) :=
  .br (inSc z.1 && ok z.2) (.ret (.nrm, (mv z.1 (z.1.i + spanN (orP p q) (z.1.s.drop z.1.i.toNat)), z.2))) .fail
theorem span_step {R : Type} {p q : Int → Bool} {ok : R → Bool} {cn : Sc × R → SD} {k : Nat} {rd : SD → Option (X × SD)} (hrd : ∀ x r, rd (cn (x, r)) = spanTree p q ok cn k x r) (z : Sc × R) (e : LX × (Sc × R)) (h : (spanL p q ok z).run = some e) :
    (∃ s', rd (cn z) = some (.normal, cn s') ∧ (spanL p q ok s').run = some e ∧ (s'.1.s.length - s'.1.i.toNat) < (z.1.s.length - z.1.i.toNat)) ∨ (rd (cn z) = some (.exit k, cn e.2) ∧ e.1 = .nrm) ∨ (rd (cn z) = some (.ret, cn e.2) ∧ e.1 = .ret) ∨ (∃ v, rd (cn z) = some (.pan v, cn e.2) ∧ v.flat = true ∧ e.1 = .pan v) := by
  obtain ⟨x, r⟩ := z
  obtain ⟨hin, h⟩ := br_run h
  injection h with h; subst h
  simp only [Bool.and_eq_true] at hin
  obtain ⟨hin, hok⟩ := hin
  have g := inSc_iff.1 hin
  have g0 := g.i0; have g1 := g.i1
  have okx := okSc_of g
  rw [hrd]
  unfold spanTree
  by_cases hlt : x.i < x.s.length
  · have hm : InSc (mv x (x.i + 1)) := mv_in g (by omega) (by omega)
    rw [show decide (x.i < x.s.length) = true from decide_eq_true hlt, show decide (0 ≤ x.i ∧ x.i < x.s.length) = true from decide_eq_true ⟨g0, hlt⟩, okx, okSc_of hm, hok]
    simp only [cond_true, Bool.and_true]
    have hb : orP p q (x.s.getD x.i.toNat 0) = (p (byteA x.s x.i) || q (byteA x.s x.i)) := rfl
    have next : (p (byteA x.s x.i) || q (byteA x.s x.i)) = true → (spanL p q ok (mv x (x.i + 1), r)).run = some (LX.nrm, (mv x (x.i + spanN (orP p q) (x.s.drop x.i.toNat)), r)) := fun h => by
      unfold spanL
      simp only [inSc_iff.2 hm, hok, Bool.and_true, T.run, cond_true, Option.some.injEq, Prod.mk.injEq, true_and, and_true]
      simp only [mv]
      rw [span_in (p := orP p q) g0 hlt (by rw [hb]; exact h)]
      congr 1; omega
    have lt : (mv x (x.i + 1)).s.length - (mv x (x.i + 1)).i.toNat < x.s.length - x.i.toNat := by
      show x.s.length - (x.i + 1).toNat < x.s.length - x.i.toNat
      omega
    cases hp : p (byteA x.s x.i) with
    | true =>
      left
      exact ⟨(mv x (x.i + 1), r), rfl, next (by rw [hp]; rfl), lt⟩
    | false =>
      cases hq : q (byteA x.s x.i) with
      | true =>
        left
        exact ⟨(mv x (x.i + 1), r), rfl, next (by rw [hq, Bool.or_true]), lt⟩
      | false =>
        right; left
        refine ⟨?_, trivial⟩
        have e : mv x (x.i + spanN (orP p q) (x.s.drop x.i.toNat)) = x := by
          rw [span_out (p := orP p q) g0 hlt (by rw [hb, hp, hq]; rfl)]
          simp [mv]
        rw [e]; rfl
  · right; left
    refine ⟨?_, rfl⟩
    rw [show decide (x.i < x.s.length) = false from decide_eq_false hlt, okx, hok]
    have e : mv x (x.i + spanN (orP p q) (x.s.drop x.i.toNat)) = x := by
      rw [span_end (p := orP p q) (s := x.s) (i := x.i) (by omega)]
      simp [mv]
    rw [e]; rfl
/-! ### keyword -/
abbrev KwS := Sc × (List UInt8 × (Int × Int))
def cnK (p : KwS) : SD := ([.nul, .s p.2.1, .i p.2.2.1, .i p.2.2.2], [scCn p.1])
def parK : SD → Option KwS
  | ([.nul, .s w, .i a, .i b], [u]) => match scPar u with
    | some x => some (x, w, a, b)
    | none => none
  | _ => none
theorem parK_eq (d : SD) (p : KwS) (h : parK d = some p) : d = cnK p := by
  unfold parK at h
  split at h <;> try contradiction
  split at h <;> try contradiction
  rename_i x hx
  injection h with h; subst h
  rw [scPar_eq hx]; rfl
def spK : LSpec := scSp [(1, .s), (5, .i .i64 0 281474976710656), (6, .i .i64 0 281474976710656)]
def okK2 (r : List UInt8 × (Int × Int)) : Bool := decide (r.1.length ≤ 281474976710656) && (decide (0 ≤ r.2.1) && decide (r.2.1 ≤ 281474976710656) && (decide (0 ≤ r.2.2) && decide (r.2.2 ≤ 281474976710656) && true))
theorem kw_rd (x : Sc) (r : List UInt8 × (Int × Int)) : roundS sm3 204 spK (fun _ => none) 0 (cnK (x, r)) = spanTree letterB digitB okK2 cnK 0 x r := by kernel_rfl
noncomputable def kwH : Nat → Option (St → T (X × St)) := hook1 0 (loopF spK parK cnK (spanL letterB digitB okK2))
def kw0 : SFn0 Sc (List UInt8) Bool := mkFn 204 scB cStr cBool (false, false, sc0)
/-- The end of the word that comes behind blanks. -/
def kwE (x : Sc) : Int := afterBl x + nWd (mv x (afterBl x))
def kwB (x : Sc) (w : List UInt8) : Bool := bytesEq (subS x.s (afterBl x) (kwE x)) w
def kwI (x : Sc) (w : List UInt8) : Int := bif kwB x w then kwE x else x.i
def kwF : SFn Sc (List UInt8) Bool := ⟨kw0, fun _ _ => true, fun x w => (false, kwB x w, mv x (kwI x w))⟩
theorem kw_ev (x : Sc) (w : List UInt8) : kw0.evM (evHook sm3 kwH kw0) x w =
  bif inSc x && true then
    bif okK2 (w, x.i, afterBl x) && (okSc (mv x (afterBl x)) && true) then
      bif inSc (mv x (afterBl x)) && okK2 (w, x.i, afterBl x) then
        bif decide (afterBl x ≤ kwE x ∧ kwE x ≤ x.s.length) then
          bif kwB x w then bif inSc (mv x (kwE x)) && true then some (false, true, mv x (kwE x)) else none
          else bif inSc x && true then some (false, false, x) else none
        else none
      else none
    else none
  else none := by kernel_rfl
theorem afterBl_le {x : Sc} (h : InSc x) : x.i ≤ afterBl x ∧ afterBl x ≤ x.s.length := ⟨by unfold afterBl; omega, (afterBl_in h).i1⟩
theorem kwE_le {x : Sc} (h : InSc x) : afterBl x ≤ kwE x ∧ kwE x ≤ x.s.length := ⟨by unfold kwE; omega, nWd_le (afterBl_in h)⟩
theorem kwI_in {x : Sc} (h : InSc x) (w : List UInt8) : InSc (mv x (kwI x w)) := by
  have h1 := kwE_le h
  have h2 := afterBl_le h
  have h0 := h.i0; have h3 := h.i1
  refine mv_in h ?_ ?_ <;> unfold kwI <;> cases kwB x w <;> simp only [cond_true, cond_false] <;> omega
theorem okW {w : List UInt8} (h : okCs cStr.ks (cStr.cn w) = true) : w.length ≤ 281474976710656 := by
  simp only [cStr, cOne, okCs, okK, Bool.and_true, decide_eq_true_eq] at h
  exact h
theorem kw_at : SumAt 204 kwF.sum := SFn.sound (ev := evHook sm3 kwH kw0) (mkFn_ok (evHook_at sm3_ok (s := kw0) (by kernel_rfl) (by kernel_rfl) (hook_ok sm3_ok (by decide) (μ := fun p => p.1.s.length - p.1.i.toNat) (by kernel_rfl) parK_eq (span_step kw_rd))) fun x w hx hw _ => by
  have hx : inSc x = true := hx
  have hw := okW hw
  have g := inSc_iff.1 hx
  have g0 := g.i0; have g1 := g.i1; have g2 := g.s
  have b := afterBl_le g
  have e := kwE_le g
  refine (kw_ev x w).trans ?_
  have ek : okK2 (w, x.i, afterBl x) = true := by
    simp only [okK2, Bool.and_eq_true, decide_eq_true_eq, Bool.and_true]
    refine ⟨hw, ⟨g0, by omega⟩, by omega, by omega⟩
  rw [hx, ek, okSc_of (afterBl_in g), inSc_iff.2 (afterBl_in g), show decide (afterBl x ≤ kwE x ∧ kwE x ≤ x.s.length) = true from decide_eq_true e]
  unfold kwI
  cases hb : kwB x w with
  | true =>
    have := kwI_in g w
    unfold kwI at this
    rw [hb] at this
    rw [show inSc (mv x (kwE x)) = true from inSc_iff.2 this]; rfl
  | false => rfl)
/-! ### end -/
noncomputable def sm4 (f : Nat) : Option Summ := match Nat.beq f 204 with
  | true => some kwF.sum
  | false => sm3 f
theorem sm4_ok : ∀ f s, sm4 f = some s → SumAt f s := sm_cons sm3_ok kw_at
def end0 : SFn0 Sc Unit Unit := mkFn 205 scB cUnit cUnit (false, (), sc0)
def sign0 : SFn0 Sc (List UInt8) Bool := mkFn 232 scB cStr cBool (false, false, sc0)
def local0 : SFn0 Sc Unit (List UInt8) := mkFn 162 scB cUnit cStr (false, [], sc0)
def reserved0 : SFn0 Unit (List UInt8) Bool := mkFn 164 nilB cStr cBool (false, false, ())
def char0 : SFn0 Sc Unit Int := mkFn 115 scB cUnit (cInj .i64 0 255) (false, 0, sc0)
def opOf0 : SFn0 Unit (Int × Int) (List UInt8) := mkFn 118 nilB (cInjC .i64 0 6 (cInj .u8 0 255)) cStr (false, [], ())
end Go.Proofs.YtlmacdfbdhpljaaGreatDoor
