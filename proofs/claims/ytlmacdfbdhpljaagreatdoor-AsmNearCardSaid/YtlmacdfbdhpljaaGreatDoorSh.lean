/- Own text: numbers of a scanner. -/
import Derived.Test.YtlmacdfbdhpljaaGreatDoorSg
namespace Go.Proofs.YtlmacdfbdhpljaaGreatDoor
open Go.Ev Go.Ev.Tr Go.Proofs
set_option maxRecDepth 1000000
/-! ### digits -/
noncomputable def sm5 (f : Nat) : Option Summ := match Nat.beq f 205 with
  | true => some endF.sum
  | false => match Nat.beq f 162 with
    | true => some locF.sum
    | false => match Nat.beq f 164 with
      | true => some resF.sum
      | false => sm4 f
theorem sm5_ok : ∀ f s, sm5 f = some s → SumAt f s := sm_cons (sm_cons (sm_cons sm4_ok res_at) loc_at) end_at
def b160 : SFn0 Unit Int Int := mkFn 160 nilB (cInj .u8 0 255) (cInj .i64 (-1) 15) (false, 0, ())
def text0 : SFn0 Sc Unit (List UInt8 × Bool) := mkFn 209 scB cUnit (cStrC cBool) (false, ([], false), sc0)
def b16x (c : Int) : Int := (c.toNat.lor (32 * (c / 64 % 2)).toNat : Nat)
def posI (v : Int) : List Int → Int → Int
  | [], _ => -1
  | a :: r, k => bif a == v then k else posI v r (k + 1)
def posO (v : Int) : List Int → Int → Option (Bool × Int × Unit)
  | [], _ => some (false, -1, ())
  | a :: r, k => bif a == v then some (false, k, ()) else posO v r (k + 1)
theorem posO_eq (v : Int) : ∀ l k, posO v l k = some (false, posI v l k, ())
  | [], _ => rfl
  | a :: r, k => by
    unfold posO posI
    cases a == v with
    | true => rfl
    | false => exact posO_eq v r (k + 1)
def hexTab : List Int := [48, 49, 50, 51, 52, 53, 54, 55, 56, 57, 97, 98, 99, 100, 101, 102]
/-- The value of a digit. -/
def b16 (c : Int) : Int := posI (b16x c) hexTab 0
def b16F : SFn Unit Int Int := ⟨b160, fun _ _ => true, fun _ c => (false, b16 c, ())⟩
theorem b16_ev (c : Int) : b160.evM (evOf (callS sm5) b160) () c = posO (b16x c) hexTab 0 := by kernel_rfl
theorem b16_at : SumAt 160 b16F.sum := fn_at (callSOK sm5_ok) fun _ c _ _ _ => (b16_ev c).trans (posO_eq _ _ _)
theorem posI_ge (v : Int) : ∀ (l : List Int) (k : Int), 0 ≤ k → -1 ≤ posI v l k ∧ posI v l k < k + l.length
  | [], k, h => by simp only [posI, List.length_nil]; omega
  | a :: r, k, h => by
    have := posI_ge v r (k + 1) (by omega)
    unfold posI
    simp only [List.length_cons]
    cases a == v <;> simp only [cond_true, cond_false] <;> omega
theorem b16_le (c : Int) : -1 ≤ b16 c ∧ b16 c ≤ 15 := by
  have := posI_ge (b16x c) hexTab 0 (Int.le_refl _)
  have e : (hexTab.length : Int) = 16 := rfl
  unfold b16; omega
noncomputable def sm6 (f : Nat) : Option Summ := match Nat.beq f 160 with
  | true => some b16F.sum
  | false => sm5 f
theorem sm6_ok : ∀ f s, sm6 f = some s → SumAt f s := sm_cons sm5_ok b16_at
/-- digits: the scanner; the base; the number so far; is there one. -/
abbrev DgS := Sc × (Int × (Int × Bool))
def cnD (p : DgS) : SD := ([.nul, .i p.2.1, .i p.2.2.1, .b p.2.2.2], [scCn p.1])
def parD : SD → Option DgS
  | ([.nul, .i a, .i b, .b c], [u]) => match scPar u with
    | some x => some (x, a, b, c)
    | none => none
  | _ => none
theorem parD_eq (d : SD) (p : DgS) (h : parD d = some p) : d = cnD p := by
  unfold parD at h
  split at h <;> try contradiction
  split at h <;> try contradiction
  rename_i x hx
  injection h with h; subst h
  rw [scPar_eq hx]; rfl
def spD : LSpec := scSp [(1, .i .i64 2 16), (5, .i .i64 0 1099511627776), (6, .b)]
def dgNext (b n c : Int) : Int := if 1099511627776 < n * b + b16 c then 1099511627776 else n * b + b16 c
def okD (b n : Int) : Bool := decide (2 ≤ b) && decide (b ≤ 16) && (decide (0 ≤ n) && decide (n ≤ 1099511627776) && true)
theorem dig_rd (x : Sc) (b n : Int) (f : Bool) : roundS sm6 114 spD (fun _ => none) 0 (cnD (x, b, n, f)) =
  bif decide (x.i < x.s.length) then
    bif decide (0 ≤ x.i ∧ x.i < x.s.length) then
      bif decide (b16 (byteA x.s x.i) < 0) then bif okD b n && (okSc x && true) then some (.exit 0, cnD (x, b, n, f)) else none
      else bif decide (b ≤ b16 (byteA x.s x.i)) then bif okD b n && (okSc x && true) then some (.exit 0, cnD (x, b, n, f)) else none
      else bif okD b (dgNext b n (byteA x.s x.i)) && (okSc (mv x (x.i + 1)) && true) then some (.normal, cnD (mv x (x.i + 1), b, dgNext b n (byteA x.s x.i), true)) else none
    else none
  else bif okD b n && (okSc x && true) then some (.exit 0, cnD (x, b, n, f)) else none := by kernel_rfl
def isDg (b : Int) (c : UInt8) : Bool := !(decide (b16 (c.toNat : Int) < 0)) && !(decide (b ≤ b16 (c.toNat : Int)))
/-- What the digits come to. -/
def dgV (b : Int) : Int → List UInt8 → Int
  | n, [] => n
  | n, c :: r => bif isDg b c then dgV b (dgNext b n (c.toNat : Int)) r else n
def nDg (b : Int) (x : Sc) : Nat := spanN (isDg b) (x.s.drop x.i.toNat)
def dgIn (p : DgS) : Bool := inSc p.1 && okD p.2.1 p.2.2.1
def dgL (p : DgS) : T (LX × DgS) := .br (dgIn p) (.ret (.nrm, (mv p.1 (p.1.i + nDg p.2.1 p.1), p.2.1, dgV p.2.1 p.2.2.1 (p.1.s.drop p.1.i.toNat), p.2.2.2 || decide (0 < nDg p.2.1 p.1)))) .fail
theorem okD_next {b n : Int} {c : UInt8} (h : okD b n = true) (hc : isDg b c = true) : okD b (dgNext b n (c.toNat : Int)) = true := by
  simp only [okD, Bool.and_eq_true, decide_eq_true_eq, Bool.and_true] at h ⊢
  simp only [isDg, Bool.and_eq_true, Bool.not_eq_true', decide_eq_false_iff_not] at hc
  obtain ⟨⟨h1, h2⟩, h3, h4⟩ := h
  have h5 : 0 ≤ n * b := Int.mul_nonneg h3 (by omega)
  have h6 := hc.1
  refine ⟨⟨h1, h2⟩, ?_⟩
  unfold dgNext
  split <;> omega
theorem dig_step (p : DgS) (r : LX × DgS) (h : (dgL p).run = some r) : (∃ s', roundS sm6 114 spD (fun _ => none) 0 (cnD p) = some (.normal, cnD s') ∧ (dgL s').run = some r ∧ (s'.1.s.length - s'.1.i.toNat) < (p.1.s.length - p.1.i.toNat)) ∨ (roundS sm6 114 spD (fun _ => none) 0 (cnD p) = some (.exit 0, cnD r.2) ∧ r.1 = .nrm) := by
  obtain ⟨x, b, n, f⟩ := p
  obtain ⟨hin, h⟩ := br_run h
  injection h with h; subst h
  simp only [dgIn, Bool.and_eq_true] at hin
  obtain ⟨hin, hok⟩ := hin
  have g := inSc_iff.1 hin
  have g0 := g.i0; have g1 := g.i1
  rw [dig_rd, hok, okSc_of g]
  by_cases hlt : x.i < x.s.length
  · have hm : InSc (mv x (x.i + 1)) := mv_in g (by omega) (by omega)
    rw [show decide (x.i < x.s.length) = true from decide_eq_true hlt, show decide (0 ≤ x.i ∧ x.i < x.s.length) = true from decide_eq_true ⟨g0, hlt⟩, okSc_of hm]
    have hd := drop_at (s := x.s) (i := x.i.toNat) (by omega)
    have hb : isDg b (x.s.getD x.i.toNat 0) = (!(decide (b16 (byteA x.s x.i) < 0)) && !(decide (b ≤ b16 (byteA x.s x.i)))) := rfl
    cases hdg : isDg b (x.s.getD x.i.toNat 0) with
    | true =>
      left
      have hn := okD_next hok hdg
      refine ⟨(mv x (x.i + 1), b, dgNext b n (byteA x.s x.i), true), ?_, ?_, ?_⟩
      · have hb' := hb
        rw [hdg] at hb'
        have hb' := hb'.symm
        simp only [Bool.and_eq_true, Bool.not_eq_true'] at hb'
        rw [hb'.1, hb'.2, show okD b (dgNext b n (byteA x.s x.i)) = true from hn]
        rfl
      · unfold dgL dgIn
        rw [show okD b (dgNext b n (byteA x.s x.i)) = true from hn, inSc_iff.2 hm]
        have e1 : nDg b x = nDg b (mv x (x.i + 1)) + 1 := span_in (p := isDg b) g0 hlt hdg
        have e2 : dgV b n (x.s.drop x.i.toNat) = dgV b (dgNext b n (byteA x.s x.i)) ((mv x (x.i + 1)).s.drop (mv x (x.i + 1)).i.toNat) := by
          rw [hd]
          show dgV b n (_ :: _) = dgV b _ (x.s.drop (x.i + 1).toNat)
          rw [show (x.i + 1).toNat = x.i.toNat + 1 by omega]
          simp only [dgV, hdg, cond_true]; rfl
        simp only [T.run, Bool.and_true, cond_true, Option.some.injEq, Prod.mk.injEq, true_and, e1, e2, Bool.true_or]
        refine ⟨?_, ?_⟩
        · have e4 : (mv x (x.i + 1)).i + (nDg b (mv x (x.i + 1)) : Int) = x.i + ((nDg b (mv x (x.i + 1)) + 1 : Nat) : Int) := by
            show x.i + 1 + _ = _
            omega
          rw [e4]; rfl
        · simp
      · show x.s.length - (x.i + 1).toNat < x.s.length - x.i.toNat
        omega
    | false =>
      right
      refine ⟨?_, rfl⟩
      have e1 : nDg b x = 0 := span_out (p := isDg b) g0 hlt hdg
      have e2 : dgV b n (x.s.drop x.i.toNat) = n := by rw [hd]; simp only [dgV, hdg, cond_false]
      have e3 : mv x (x.i + (0 : Nat)) = x := by simp [mv]
      simp only [e1, e2, Nat.lt_irrefl, decide_false, Bool.or_false, e3]
      rw [hdg] at hb
      have hb := hb.symm
      cases h1 : decide (b16 (byteA x.s x.i) < 0) with
      | true => rfl
      | false =>
        rw [h1] at hb
        simp only [Bool.not_false, Bool.true_and, Bool.not_eq_false'] at hb
        rw [hb]; rfl
  · right
    refine ⟨?_, rfl⟩
    have e1 : nDg b x = 0 := span_end (p := isDg b) (s := x.s) (i := x.i) (by omega)
    have e2 : dgV b n (x.s.drop x.i.toNat) = n := by rw [List.drop_eq_nil_of_le (by omega)]; rfl
    have e3 : mv x (x.i + (0 : Nat)) = x := by simp [mv]
    simp only [e1, e2, Nat.lt_irrefl, decide_false, Bool.or_false, e3]
    rw [show decide (x.i < x.s.length) = false from decide_eq_false hlt]; rfl
noncomputable def digH : Nat → Option (St → T (X × St)) := hook1 0 (loopF spD parD cnD dgL)
def dig0 : SFn0 Sc Int Int := mkFn 114 scB (cInj .i64 2 16) (cInj .i64 0 1099511627776) (false, 0, sc0)
/-- Behind the digits. -/
def dgE (b : Int) (x : Sc) : Sc := mv x (x.i + nDg b x)
def atWd (x : Sc) : Bool := decide (x.i < x.s.length) && (letterB (byteA x.s x.i) || digitB (byteA x.s x.i))
def dgP (b : Int) (x : Sc) : Bool := decide (nDg b x = 0) || atWd (dgE b x)
def dgR (b : Int) (x : Sc) : Int := bif dgP b x then 0 else dgV b 0 (x.s.drop x.i.toNat)
def digF : SFn Sc Int Int := ⟨dig0, fun _ b => decide (2 ≤ b) && decide (b ≤ 16), fun x b => (dgP b x, dgR b x, dgE b x)⟩
theorem dig_ev (x : Sc) (b : Int) : dig0.evM (evHook sm6 digH dig0) x b = bif okD b 0 && (okSc x && true) then
    bif dgIn (x, b, 0, false) then
      bif !(false || decide (0 < nDg b x)) then bif inSc (dgE b x) && true then some (true, 0, dgE b x) else none
      else bif decide ((dgE b x).i < x.s.length) then
        bif decide (0 ≤ (dgE b x).i ∧ (dgE b x).i < x.s.length) then
          bif letterB (byteA x.s (dgE b x).i) then bif inSc (dgE b x) && true then some (true, 0, dgE b x) else none
          else bif decide (0 ≤ (dgE b x).i ∧ (dgE b x).i < x.s.length) then
            bif digitB (byteA x.s (dgE b x).i) then bif inSc (dgE b x) && true then some (true, 0, dgE b x) else none
            else bif inSc (dgE b x) && true then some (false, dgV b 0 (x.s.drop x.i.toNat), dgE b x) else none
          else none
        else none
      else bif inSc (dgE b x) && true then some (false, dgV b 0 (x.s.drop x.i.toNat), dgE b x) else none
    else none
  else none := by kernel_rfl
theorem dgE_in {x : Sc} (h : InSc x) (b : Int) : InSc (dgE b x) := mv_in h (by have := h.i0; omega) (span_le h.i0 h.i1)
theorem dig_at : SumAt 114 digF.sum := SFn.sound (ev := evHook sm6 digH dig0) (mkFn_ok (evHook_at sm6_ok (s := dig0) (by kernel_rfl) (by kernel_rfl) (hook_ok sm6_ok (by decide) (μ := fun p => p.1.s.length - p.1.i.toNat) (by kernel_rfl) parD_eq fun x r h => loop2 (σ := Sc) (dig_step x r h))) fun x b hx _ hb => by
  have hx : inSc x = true := hx
  have hb : (decide (2 ≤ b) && decide (b ≤ 16)) = true := hb
  have g := inSc_iff.1 hx
  have ge := dgE_in g b
  have okd : okD b 0 = true := by unfold okD; rw [hb]; rfl
  refine (dig_ev x b).trans ?_
  rw [okd, okSc_of g, show dgIn (x, b, 0, false) = true by unfold dgIn; rw [hx]; exact okd, inSc_iff.2 ge]
  have e0 := ge.i0
  have es : (dgE b x).s = x.s := rfl
  show _ = some (dgP b x, dgR b x, dgE b x)
  have key : ∀ q : Bool, dgP b x = q → some (dgP b x, dgR b x, dgE b x) = some (q, (bif q then 0 else dgV b 0 (x.s.drop x.i.toNat)), dgE b x) := fun q h => by
    unfold dgR; rw [h]
  by_cases hn : nDg b x = 0
  · rw [key true (by unfold dgP; rw [decide_eq_true hn]; rfl), hn]; rfl
  · have hn' : (!(false || decide (0 < nDg b x))) = false := by simp; omega
    rw [hn']
    have hP : dgP b x = atWd (dgE b x) := by unfold dgP; rw [decide_eq_false hn]; rfl
    by_cases hlt : (dgE b x).i < x.s.length
    · have hP2 : dgP b x = (letterB (byteA x.s (dgE b x).i) || digitB (byteA x.s (dgE b x).i)) := by
        rw [hP]; unfold atWd; rw [es, decide_eq_true hlt]; rfl
      rw [decide_eq_true hlt, show decide (0 ≤ (dgE b x).i ∧ (dgE b x).i < x.s.length) = true from decide_eq_true ⟨e0, hlt⟩]
      cases h1 : letterB (byteA x.s (dgE b x).i) with
      | true => rw [key true (by rw [hP2, h1]; rfl)]; rfl
      | false => cases h2 : digitB (byteA x.s (dgE b x).i) with
        | true => rw [key true (by rw [hP2, h1, h2]; rfl)]; rfl
        | false => rw [key false (by rw [hP2, h1, h2]; rfl)]; rfl
    · rw [key false (by rw [hP]; unfold atWd; rw [es, decide_eq_false hlt]; rfl), decide_eq_false hlt]; rfl)
end Go.Proofs.YtlmacdfbdhpljaaGreatDoor
