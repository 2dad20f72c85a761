/- Own text: words of a scanner. -/
import Derived.Test.YtlmacdfbdhpljaaGreatDoorSd
namespace Go.Proofs.YtlmacdfbdhpljaaGreatDoor
open Go.Ev Go.Ev.Tr Go.Proofs
set_option maxRecDepth 1000000
def isWd (c : UInt8) : Bool := letterB (c.toNat : Int) || digitB (c.toNat : Int)
theorem isWd_at (s : List UInt8) (i : Int) : isWd (s.getD i.toNat 0) = (letterB (byteA s i) || digitB (byteA s i)) := rfl
/-- So many bytes of words come. -/
def nWd (x : Sc) : Nat := spanN isWd (x.s.drop x.i.toNat)
def cnW (p : Sc × Int) : SD := ([.nul, .i p.2], [scCn p.1])
def parW : SD → Option (Sc × Int)
  | ([.nul, .i f], [u]) => match scPar u with
    | some x => some (x, f)
    | none => none
  | _ => none
theorem parW_eq (d : SD) (p : Sc × Int) (h : parW d = some p) : d = cnW p := by
  unfold parW at h
  split at h <;> try contradiction
  split at h <;> try contradiction
  rename_i x hx
  injection h with h; subst h
  rw [scPar_eq hx]; rfl
def spW : LSpec := scSp [(3, .i .i64 0 281474976710656)]
theorem word_rd (x : Sc) (i : Int) : roundS sm2 163 spW (fun _ => none) 0 (cnW (x, i)) =
  bif decide (x.i < x.s.length) then
    bif decide (0 ≤ x.i ∧ x.i < x.s.length) then
      bif letterB (byteA x.s x.i) then
        bif x.i - i == 16 then
          bif decide (0 ≤ i) && decide (i ≤ 281474976710656) && true && (okSc x && true) then some (.pan slipV, cnW (x, i)) else none
        else
          bif decide (0 ≤ i) && decide (i ≤ 281474976710656) && true && (okSc (mv x (x.i + 1)) && true) then some (.normal, cnW (mv x (x.i + 1), i)) else none
      else
        bif decide (0 ≤ x.i ∧ x.i < x.s.length) then
          bif digitB (byteA x.s x.i) then
            bif x.i - i == 16 then
              bif decide (0 ≤ i) && decide (i ≤ 281474976710656) && true && (okSc x && true) then some (.pan slipV, cnW (x, i)) else none
            else
              bif decide (0 ≤ i) && decide (i ≤ 281474976710656) && true && (okSc (mv x (x.i + 1)) && true) then some (.normal, cnW (mv x (x.i + 1), i)) else none
          else
            bif decide (0 ≤ i) && decide (i ≤ 281474976710656) && true && (okSc x && true) then some (.exit 0, cnW (x, i)) else none
        else none
    else none
  else bif decide (0 ≤ i) && decide (i ≤ 281474976710656) && true && (okSc x && true) then some (.exit 0, cnW (x, i)) else none := by kernel_rfl
def wordIn (p : Sc × Int) : Bool := inSc p.1 && (decide (0 ≤ p.2) && (decide (p.2 ≤ p.1.i) && decide (p.1.i ≤ p.2 + 16)))
def wordL (p : Sc × Int) : T (LX × (Sc × Int)) := .br (wordIn p) (.br (decide (p.1.i + nWd p.1 ≤ p.2 + 16)) (.ret (.nrm, (mv p.1 (p.1.i + nWd p.1), p.2))) (.ret (.pan slipV, (mv p.1 (p.2 + 16), p.2)))) .fail
theorem wordL_next {x : Sc} {i : Int} (h : wordIn (x, i) = true) (hlt : x.i < x.s.length) (hw : isWd (x.s.getD x.i.toNat 0) = true) (hn : x.i ≠ i + 16) : wordIn (mv x (x.i + 1), i) = true ∧ wordL (mv x (x.i + 1), i) = wordL (x, i) := by
  simp only [wordIn, Bool.and_eq_true, decide_eq_true_eq] at h
  obtain ⟨h1, h2, h3, h4⟩ := h
  have g := inSc_iff.1 h1
  have g0 := g.i0
  have hm : inSc (mv x (x.i + 1)) = true := inSc_iff.2 (mv_in g (by omega) (by omega))
  have e1 : wordIn (mv x (x.i + 1), i) = true := by
    simp only [wordIn, Bool.and_eq_true, decide_eq_true_eq]
    refine ⟨hm, h2, ?_, ?_⟩
    · show i ≤ x.i + 1; omega
    · show x.i + 1 ≤ i + 16; omega
  refine ⟨e1, ?_⟩
  have e2 : wordIn (x, i) = true := by
    simp only [wordIn, Bool.and_eq_true, decide_eq_true_eq]
    exact ⟨h1, h2, h3, h4⟩
  have e3 : nWd x = nWd (mv x (x.i + 1)) + 1 := span_in (p := isWd) g0 hlt hw
  unfold wordL
  rw [e1, e2]
  simp only [e3]
  have e4 : (mv x (x.i + 1)).i + (nWd (mv x (x.i + 1)) : Int) = x.i + ((nWd (mv x (x.i + 1)) + 1 : Nat) : Int) := by
    show x.i + 1 + _ = _
    omega
  rw [e4]; rfl
theorem word_step (p : Sc × Int) (r : LX × (Sc × Int)) (h : (wordL p).run = some r) : (∃ s', roundS sm2 163 spW (fun _ => none) 0 (cnW p) = some (.normal, cnW s') ∧ (wordL s').run = some r ∧ (s'.1.s.length - s'.1.i.toNat) < (p.1.s.length - p.1.i.toNat)) ∨ (roundS sm2 163 spW (fun _ => none) 0 (cnW p) = some (.exit 0, cnW r.2) ∧ r.1 = .nrm) ∨
    (roundS sm2 163 spW (fun _ => none) 0 (cnW p) = some (.ret, cnW r.2) ∧ r.1 = .ret) ∨ (∃ v, roundS sm2 163 spW (fun _ => none) 0 (cnW p) = some (.pan v, cnW r.2) ∧ v.flat = true ∧ r.1 = .pan v) := by
  obtain ⟨x, i⟩ := p
  have h' := h
  obtain ⟨hin, h⟩ := br_run h
  have hin' := hin
  simp only [wordIn, Bool.and_eq_true, decide_eq_true_eq] at hin
  obtain ⟨h1, h2, h3, h4⟩ := hin
  have g := inSc_iff.1 h1
  have g0 := g.i0; have g1 := g.i1; have g2 := g.s
  have okx : okSc x = true := okSc_of g
  have oki : (decide (0 ≤ i) && decide (i ≤ 281474976710656)) = true := by simp; omega
  rw [word_rd, oki, okx]
  by_cases hlt : x.i < x.s.length
  · have hm : InSc (mv x (x.i + 1)) := mv_in g (by omega) (by omega)
    rw [show decide (x.i < x.s.length) = true from decide_eq_true hlt, show decide (0 ≤ x.i ∧ x.i < x.s.length) = true from decide_eq_true ⟨g0, hlt⟩, okSc_of hm]
    simp only [cond_true, Bool.and_true]
    cases hw : isWd (x.s.getD x.i.toNat 0) with
    | true =>
      have hw' := hw
      rw [isWd_at] at hw'
      by_cases h16 : x.i = i + 16
      · have e16 : (x.i - i == 16) = true := by simp; omega
        have hr : r = (.pan slipV, (x, i)) := by
          have hnw : nWd x = nWd (mv x (x.i + 1)) + 1 := span_in (p := isWd) g0 hlt hw
          have e1 : decide (x.i + (nWd x : Int) ≤ i + 16) = false := decide_eq_false (by omega)
          simp only [T.run, e1, cond_false, Option.some.injEq] at h
          rw [← h, show i + 16 = x.i by omega]; rfl
        right; right; right
        refine ⟨slipV, ?_, rfl, by rw [hr]⟩
        rw [e16, hr]
        cases hl : letterB (byteA x.s x.i) with
        | true => rfl
        | false => rw [hl] at hw'; simp only [Bool.false_or] at hw'; rw [hw']; rfl
      · have e16 : (x.i - i == 16) = false := by simp; omega
        left
        obtain ⟨k1, k2⟩ := wordL_next hin' hlt hw h16
        refine ⟨(mv x (x.i + 1), i), ?_, by rw [k2]; exact h', ?_⟩
        · rw [e16]
          cases hl : letterB (byteA x.s x.i) with
          | true => rfl
          | false => rw [hl] at hw'; simp only [Bool.false_or] at hw'; rw [hw']; rfl
        · show x.s.length - (x.i + 1).toNat < x.s.length - x.i.toNat
          omega
    | false =>
      right; left
      have hnw : nWd x = 0 := span_out (p := isWd) g0 hlt hw
      rw [isWd_at] at hw
      simp only [Bool.or_eq_false_iff] at hw
      simp only [T.run, hnw, Int.natCast_zero, Int.add_zero, decide_eq_true h4, cond_true, Option.some.injEq] at h
      rw [hw.1, hw.2, ← h]
      exact ⟨rfl, rfl⟩
  · right; left
    have hnw : nWd x = 0 := span_end (p := isWd) (s := x.s) (i := x.i) (by omega)
    simp only [T.run, hnw, Int.natCast_zero, Int.add_zero, decide_eq_true h4, cond_true, Option.some.injEq] at h
    rw [show decide (x.i < x.s.length) = false from decide_eq_false hlt, ← h]
    exact ⟨rfl, rfl⟩
noncomputable def wordH : Nat → Option (St → T (X × St)) := hook1 0 (loopF spW parW cnW wordL)
def word0 : SFn0 Sc Unit (List UInt8) := mkFn 163 scB cUnit cStr (false, [], sc0)
theorem word_ev (x : Sc) : word0.evM (evHook sm2 wordH word0) x () =
  bif x.i == x.s.length then bif inSc x && okCs [KS.s] [SV.s []] then some (false, [], x) else none
  else bif decide (0 ≤ x.i ∧ x.i < x.s.length) then
    bif !letterB (byteA x.s x.i) then bif inSc x && okCs [KS.s] [SV.s []] then some (false, [], x) else none
    else bif decide (0 ≤ x.i) && decide (x.i ≤ 281474976710656) && true && (okSc x && true) then
      bif wordIn (x, x.i) then
        bif decide (x.i + (nWd x : Int) ≤ x.i + 16) then
          bif decide (x.i ≤ x.i + (nWd x : Int) ∧ x.i + (nWd x : Int) ≤ x.s.length) then
            bif inSc (mv x (x.i + nWd x)) && okCs [KS.s] [SV.s (List.drop x.i.toNat (List.take (x.i + (nWd x : Int)).toNat x.s))] then
              some (false, List.drop x.i.toNat (List.take (x.i + (nWd x : Int)).toNat x.s), (mv x (x.i + nWd x)))
            else none
          else none
        else bif inSc (mv x (x.i + 16)) && okCs [KS.s] [SV.s []] then some (true, [], (mv x (x.i + 16))) else none
      else none
    else none
  else none := by kernel_rfl
/-- Bytes from i to j. -/
def subS (s : List UInt8) (i j : Int) : List UInt8 := List.drop i.toNat (List.take j.toNat s)
theorem subS_nil (s : List UInt8) (i : Int) : subS s i i = [] := by
  unfold subS
  apply List.drop_eq_nil_of_le
  rw [List.length_take]; omega
theorem subS_len (s : List UInt8) (i j : Int) : (subS s i j).length ≤ s.length := by
  unfold subS
  rw [List.length_drop, List.length_take]; omega
theorem okS {l : List UInt8} (h : l.length ≤ 281474976710656) : okCs [KS.s] [SV.s l] = true := by
  simp only [okCs, okK, Bool.and_true]
  exact decide_eq_true h
def firstL (x : Sc) : Bool := !(x.i == x.s.length) && letterB (byteA x.s x.i)
/-- So many bytes has the word. -/
def wordN (x : Sc) : Nat := bif firstL x then nWd x else 0
def wordP (x : Sc) : Bool := decide (16 < wordN x)
def wordV (x : Sc) : List UInt8 := bif wordP x then [] else subS x.s x.i (x.i + wordN x)
def wordI (x : Sc) : Int := bif wordP x then x.i + 16 else x.i + wordN x
def wordF : SFn Sc Unit (List UInt8) := ⟨word0, fun _ _ => true, fun x _ => (wordP x, wordV x, mv x (wordI x))⟩
theorem nWd_le {x : Sc} (h : InSc x) : x.i + nWd x ≤ x.s.length := span_le h.i0 h.i1
theorem wordN_le {x : Sc} (h : InSc x) : x.i + wordN x ≤ x.s.length := by
  have := nWd_le h
  have := h.i1
  unfold wordN
  cases firstL x <;> simp only [cond_true, cond_false] <;> omega
theorem wordI_in {x : Sc} (h : InSc x) : InSc (mv x (wordI x)) := by
  have h1 := wordN_le h
  have h0 := h.i0
  refine mv_in h ?_ ?_
  · unfold wordI; cases wordP x <;> simp only [cond_true, cond_false] <;> omega
  · unfold wordI
    cases hp : wordP x
    · simp only [cond_false]; exact h1
    · simp only [cond_true]
      have := of_decide_eq_true hp
      omega
theorem word_at : SumAt 163 wordF.sum := SFn.sound (ev := evHook sm2 wordH word0) (mkFn_ok (evHook_at sm2_ok (s := word0) (by kernel_rfl) (by kernel_rfl) (hook_ok sm2_ok (by decide) (μ := fun p => p.1.s.length - p.1.i.toNat) (by kernel_rfl) parW_eq word_step)) fun x a hx _ _ => by
  have hx : inSc x = true := hx
  have g := inSc_iff.1 hx
  have g0 := g.i0; have g1 := g.i1; have g2 := g.s
  have hnw := nWd_le g
  have same : mv x x.i = x := rfl
  refine (word_ev x).trans ?_
  rw [hx, okS (l := []) (by simp), okSc_of g]
  have none_ : firstL x = false → wordP x = false ∧ wordV x = [] ∧ wordI x = x.i := fun h => by
    have e : wordN x = 0 := by unfold wordN; rw [h]; rfl
    have e2 : wordP x = false := by unfold wordP; rw [e]; rfl
    refine ⟨e2, ?_, ?_⟩
    · unfold wordV; rw [e2, e]
      simp only [cond_false, Int.natCast_zero, Int.add_zero, subS_nil]
    · unfold wordI; rw [e2, e]; simp
  cases he : (x.i == (x.s.length : Int)) with
  | true =>
    obtain ⟨e1, e2, e3⟩ := none_ (by unfold firstL; rw [he]; rfl)
    rw [e1, e2, e3, same]; rfl
  | false =>
    have hlt : x.i < x.s.length := by
      have : x.i ≠ x.s.length := by simpa using he
      omega
    rw [show decide (0 ≤ x.i ∧ x.i < x.s.length) = true from decide_eq_true ⟨g0, hlt⟩]
    cases hl : letterB (byteA x.s x.i) with
    | false =>
      obtain ⟨e1, e2, e3⟩ := none_ (by unfold firstL; rw [hl, Bool.and_false])
      rw [e1, e2, e3, same]; rfl
    | true =>
      have ef : firstL x = true := by unfold firstL; rw [he, hl]; rfl
      have en : wordN x = nWd x := by unfold wordN; rw [ef]; rfl
      have e1 : (decide (0 ≤ x.i) && decide (x.i ≤ 281474976710656)) = true := by simp; omega
      have e2 : wordIn (x, x.i) = true := by
        simp only [wordIn, Bool.and_eq_true, decide_eq_true_eq]
        exact ⟨hx, g0, Int.le_refl _, by omega⟩
      rw [e1, e2]
      simp only [Bool.not_true, cond_false, cond_true, Bool.and_true]
      by_cases h16 : nWd x ≤ 16
      · have ep : wordP x = false := by unfold wordP; rw [en]; exact decide_eq_false (by omega)
        have ei : wordI x = x.i + nWd x := by unfold wordI; rw [ep, en]; rfl
        have ev : wordV x = subS x.s x.i (x.i + nWd x) := by unfold wordV; rw [ep, en]; rfl
        have hin : inSc (mv x (x.i + nWd x)) = true := by rw [← ei]; exact inSc_iff.2 (wordI_in g)
        rw [show decide (x.i + (nWd x : Int) ≤ x.i + 16) = true from decide_eq_true (by omega), show decide (x.i ≤ x.i + (nWd x : Int) ∧ x.i + (nWd x : Int) ≤ x.s.length) = true from decide_eq_true ⟨by omega, hnw⟩, hin,
          okS (l := List.drop x.i.toNat (List.take (x.i + (nWd x : Int)).toNat x.s)) (by have := subS_len x.s x.i (x.i + nWd x); unfold subS at this; omega), ep, ei, ev]
        rfl
      · have ep : wordP x = true := by unfold wordP; rw [en]; exact decide_eq_true (by omega)
        have ei : wordI x = x.i + 16 := by unfold wordI; rw [ep]; rfl
        have ev : wordV x = [] := by unfold wordV; rw [ep]; rfl
        have hin : inSc (mv x (x.i + 16)) = true := by rw [← ei]; exact inSc_iff.2 (wordI_in g)
        rw [show decide (x.i + (nWd x : Int) ≤ x.i + 16) = false from decide_eq_false (by omega), hin, ep, ei, ev]
        rfl)
end Go.Proofs.YtlmacdfbdhpljaaGreatDoor
