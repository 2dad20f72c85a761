/- Own text: bytes in quotes, signs, texts of a scanner. -/
import Derived.Test.YtlmacdfbdhpljaaGreatDoorSh
namespace Go.Proofs.YtlmacdfbdhpljaaGreatDoor
open Go.Ev Go.Ev.Tr Go.Proofs
set_option maxRecDepth 1000000
noncomputable def sm7 (f : Nat) : Option Summ := match Nat.beq f 114 with
  | true => some digF.sum
  | false => sm6 f
theorem sm7_ok : ∀ f s, sm7 f = some s → SumAt f s := sm_cons sm6_ok dig_at
/-! ### a byte in quotes -/
def chBad (x : Sc) : Bool := (x.i + 1 == x.s.length) || (byteA x.s (x.i + 1) == 10 || byteA x.s (x.i + 1) == 39)
def chEnd (x : Sc) : Bool := !(x.i + 2 == x.s.length) && byteA x.s (x.i + 2) == 39
def chP (x : Sc) : Bool := chBad x || !chEnd x
def chV (x : Sc) : Int := bif chP x then 0 else byteA x.s (x.i + 1)
def chI (x : Sc) : Int := bif chBad x then x.i + 1 else bif chEnd x then x.i + 3 else x.i + 2
def chF : SFn Sc Unit Int := ⟨char0, fun x _ => decide (x.i < x.s.length), fun x _ => (chP x, chV x, mv x (chI x))⟩
def chPk (x : Sc) : Int := bif x.i + 1 == x.s.length then 0 else byteA x.s (x.i + 1)
theorem ch_ev (x : Sc) : char0.evM (evOf (callS sm7) char0) x () = bif inSc (mv x (x.i + 1)) && true then
    bif x.i + 1 == x.s.length then bif inSc (mv x (x.i + 1)) && true then some (true, 0, mv x (x.i + 1)) else none
    else bif chPk x == 10 then bif inSc (mv x (x.i + 1)) && true then some (true, 0, mv x (x.i + 1)) else none
    else bif chPk x == 39 then bif inSc (mv x (x.i + 1)) && true then some (true, 0, mv x (x.i + 1)) else none
    else bif decide (0 ≤ x.i + 1 ∧ x.i + 1 < x.s.length) then
      bif x.i + 1 + 1 == x.s.length then bif inSc (mv x (x.i + 1 + 1)) && true then some (true, 0, mv x (x.i + 1 + 1)) else none
      else bif decide (0 ≤ x.i + 1 + 1 ∧ x.i + 1 + 1 < x.s.length) then
        bif !(byteA x.s (x.i + 1 + 1) == 39) then bif inSc (mv x (x.i + 1 + 1)) && true then some (true, 0, mv x (x.i + 1 + 1)) else none
        else bif inSc (mv x (x.i + 1 + 1 + 1)) && true then some (false, byteA x.s (x.i + 1), mv x (x.i + 1 + 1 + 1)) else none
      else none
    else none
  else none := by kernel_rfl
theorem ch_at : SumAt 115 chF.sum := fn_at (callSOK sm7_ok) fun x a hx _ hp => by
  have hx : inSc x = true := hx
  have hp : x.i < x.s.length := of_decide_eq_true hp
  have g := inSc_iff.1 hx
  have g0 := g.i0
  have m1 : inSc (mv x (x.i + 1)) = true := inSc_iff.2 (mv_in g (by omega) (by omega))
  refine (ch_ev x).trans ?_
  show _ = some (chP x, chV x, mv x (chI x))
  rw [m1]
  have e2 : x.i + 1 + 1 = x.i + 2 := by omega
  have e3 : x.i + 2 + 1 = x.i + 3 := by omega
  rw [e2, e3]
  have bad : chBad x = true → some (chP x, chV x, mv x (chI x)) = some (true, 0, mv x (x.i + 1)) := fun h => by
    have hP : chP x = true := by unfold chP; rw [h]; rfl
    unfold chV chI; rw [hP, h]; rfl
  cases h1 : (x.i + 1 == (x.s.length : Int)) with
  | true => rw [bad (by unfold chBad; rw [h1]; rfl)]; rfl
  | false =>
    have hne : x.i + 1 < x.s.length := by
      have : x.i + 1 ≠ x.s.length := by simpa using h1
      omega
    have epk : chPk x = byteA x.s (x.i + 1) := by unfold chPk; rw [h1]; rfl
    rw [epk]
    cases h2 : byteA x.s (x.i + 1) == 10 with
    | true => rw [bad (by unfold chBad; rw [h2]; simp)]; rfl
    | false =>
      cases h3 : byteA x.s (x.i + 1) == 39 with
      | true => rw [bad (by unfold chBad; rw [h3]; simp)]; rfl
      | false =>
        have hb : chBad x = false := by unfold chBad; rw [h1, h2, h3]; rfl
        rw [show decide (0 ≤ x.i + 1 ∧ x.i + 1 < x.s.length) = true from decide_eq_true ⟨by omega, hne⟩]
        have noEnd : chEnd x = false → some (chP x, chV x, mv x (chI x)) = some (true, 0, mv x (x.i + 2)) := fun h => by
          have hP : chP x = true := by unfold chP; rw [hb, h]; rfl
          unfold chV chI; rw [hP, hb, h]; rfl
        have m2 : inSc (mv x (x.i + 2)) = true := inSc_iff.2 (mv_in g (by omega) (by omega))
        cases h4 : (x.i + 2 == (x.s.length : Int)) with
        | true => rw [noEnd (by unfold chEnd; rw [h4]; rfl), m2]; rfl
        | false =>
          have hne2 : x.i + 2 < x.s.length := by
            have : x.i + 2 ≠ x.s.length := by simpa using h4
            omega
          have m3 : inSc (mv x (x.i + 3)) = true := inSc_iff.2 (mv_in g (by omega) (by omega))
          rw [show decide (0 ≤ x.i + 2 ∧ x.i + 2 < x.s.length) = true from decide_eq_true ⟨by omega, hne2⟩, m2, m3]
          cases h5 : byteA x.s (x.i + 2) == 39 with
          | false => rw [noEnd (by unfold chEnd; rw [h4, h5]; rfl)]; rfl
          | true =>
            have he : chEnd x = true := by unfold chEnd; rw [h4, h5]; rfl
            have hP : chP x = false := by unfold chP; rw [hb, he]; rfl
            unfold chV chI
            rw [hP, hb, he]; rfl
/-! ### a sign -/
/-- What comes from a place on. -/
def restS (s : List UInt8) (i : Int) : List UInt8 := List.drop i.toNat (List.take ((s.length : Int)).toNat s)
theorem restS_len (s : List UInt8) {i : Int} (h : 0 ≤ i) (h1 : i ≤ s.length) : ((restS s i).length : Int) = s.length - i := by
  unfold restS
  rw [List.length_drop, List.length_take]; omega
def sgB (x : Sc) (w : List UInt8) : Bool := decide ((w.length : Int) ≤ (restS x.s (afterBl x)).length) && bytesEq (List.drop 0 (List.take (w.length : Int).toNat (restS x.s (afterBl x)))) w
def sgI (x : Sc) (w : List UInt8) : Int := bif sgB x w then afterBl x + w.length else x.i
def sgF : SFn Sc (List UInt8) Bool := ⟨sign0, fun _ _ => true, fun x w => (false, sgB x w, mv x (sgI x w))⟩
theorem sg_ev (x : Sc) (w : List UInt8) : sign0.evM (evOf (callS sm7) sign0) x w = bif inSc x && true then
    bif decide (afterBl x ≤ x.s.length ∧ (x.s.length : Int) ≤ x.s.length) then
      bif decide ((w.length : Int) ≤ (restS x.s (afterBl x)).length) then
        bif decide (0 ≤ (w.length : Int) ∧ (w.length : Int) ≤ (restS x.s (afterBl x)).length) then
          bif !(bytesEq (List.drop 0 (List.take (w.length : Int).toNat (restS x.s (afterBl x)))) w) then bif inSc x && true then some (false, false, x) else none
          else bif inSc (mv x (afterBl x + w.length)) && true then some (false, true, mv x (afterBl x + w.length)) else none
        else none
      else bif inSc x && true then some (false, false, x) else none
    else none
  else none := by kernel_rfl
theorem sgI_in {x : Sc} (g : InSc x) (w : List UInt8) : InSc (mv x (sgI x w)) := by
  have b := afterBl_le g
  have g0 := g.i0; have g1 := g.i1
  have hl := restS_len x.s (i := afterBl x) (by omega) b.2
  cases h : sgB x w with
  | false => unfold sgI; rw [h]; exact g
  | true =>
    have h' := h
    unfold sgB at h'
    simp only [Bool.and_eq_true, decide_eq_true_eq] at h'
    have := h'.1
    unfold sgI; rw [h]
    exact mv_in g (by simp only [cond_true]; omega) (by simp only [cond_true]; omega)
theorem sg_at : SumAt 232 sgF.sum := fn_at (callSOK sm7_ok) fun x w hx _ _ => by
  have hx : inSc x = true := hx
  have g := inSc_iff.1 hx
  have b := afterBl_le g
  have hin := inSc_iff.2 (sgI_in g w)
  refine (sg_ev x w).trans ?_
  show _ = some (false, sgB x w, mv x (sgI x w))
  rw [hx, show decide (afterBl x ≤ x.s.length ∧ (x.s.length : Int) ≤ x.s.length) = true from decide_eq_true ⟨b.2, Int.le_refl _⟩]
  have e : ∀ q, sgB x w = q → some (false, sgB x w, mv x (sgI x w)) = some (false, q, mv x (bif q then afterBl x + w.length else x.i)) ∧ inSc (mv x (bif q then afterBl x + w.length else x.i)) = true := fun q h => by
    unfold sgI at hin ⊢; rw [h] at hin ⊢; exact ⟨rfl, hin⟩
  by_cases h1 : (w.length : Int) ≤ (restS x.s (afterBl x)).length
  · rw [decide_eq_true h1, show decide (0 ≤ (w.length : Int) ∧ (w.length : Int) ≤ (restS x.s (afterBl x)).length) = true from decide_eq_true ⟨by omega, h1⟩]
    cases h2 : bytesEq (List.drop 0 (List.take (w.length : Int).toNat (restS x.s (afterBl x)))) w with
    | true =>
      obtain ⟨e1, e2⟩ := e true (by unfold sgB; rw [decide_eq_true h1, h2]; rfl)
      rw [e1]
      simp only [cond_true] at e2
      rw [e2]; rfl
    | false =>
      obtain ⟨e1, e2⟩ := e false (by unfold sgB; rw [h2, Bool.and_false])
      rw [e1]; rfl
  · obtain ⟨e1, e2⟩ := e false (by unfold sgB; rw [decide_eq_false h1]; rfl)
    rw [decide_eq_false h1, e1]; rfl
/-! ### a text -/
def txQ (x : Sc) : Bool := peekM (mv x (afterBl x)) == 34
def txK (x : Sc) : Int := Lib.indexByte (restS x.s (afterBl x + 1)) 34
def txB (x : Sc) : Bool := txQ x && !(decide (txK x < 0))
def txP (x : Sc) : Bool := txQ x && decide (txK x < 0)
def txV (x : Sc) : List UInt8 := bif txB x then subS x.s (afterBl x + 1) (afterBl x + 1 + txK x) else []
def txI (x : Sc) : Int := bif txB x then afterBl x + (txK x + 2) else afterBl x
def txF : SFn Sc Unit (List UInt8 × Bool) := ⟨text0, fun _ _ => true, fun x _ => (txP x, (txV x, txB x), mv x (txI x))⟩
theorem tx_ev (x : Sc) : text0.evM (evOf (callS sm7) text0) x () = bif inSc x && true then
    bif inSc (mv x (afterBl x)) && true then
      bif !(peekM (mv x (afterBl x)) == 34) then bif inSc (mv x (afterBl x)) && okCs [KS.s, KS.b] [SV.s [], SV.b false] then some (false, ([], false), mv x (afterBl x)) else none
      else bif decide (afterBl x + 1 ≤ x.s.length ∧ (x.s.length : Int) ≤ x.s.length) then
        bif decide (txK x < 0) then bif inSc (mv x (afterBl x)) && okCs [KS.s, KS.b] [SV.s [], SV.b false] then some (true, ([], false), mv x (afterBl x)) else none
        else bif decide (afterBl x + 1 ≤ afterBl x + 1 + txK x ∧ afterBl x + 1 + txK x ≤ x.s.length) then
          bif inSc (mv x (afterBl x + (txK x + 2))) && okCs [KS.s, KS.b] [SV.s (subS x.s (afterBl x + 1) (afterBl x + 1 + txK x)), SV.b true] then
            some (false, (subS x.s (afterBl x + 1) (afterBl x + 1 + txK x), true), mv x (afterBl x + (txK x + 2)))
          else none
        else none
      else none
    else none
  else none := by kernel_rfl
theorem okSB {l : List UInt8} {b : Bool} (h : l.length ≤ 281474976710656) : okCs [KS.s, KS.b] [SV.s l, SV.b b] = true := by
  simp only [okCs, okK, Bool.and_true]
  exact decide_eq_true h
theorem tx_lt {x : Sc} (g : InSc x) (h : txQ x = true) : afterBl x < x.s.length := by
  have b := afterBl_le g
  unfold txQ peekM at h
  cases he : ((mv x (afterBl x)).i == ((mv x (afterBl x)).s.length : Int)) with
  | true => rw [he] at h; cases h
  | false =>
    have he : (afterBl x == (x.s.length : Int)) = false := he
    have : afterBl x ≠ x.s.length := by simpa using he
    omega
theorem txK_lt {x : Sc} (g : InSc x) (h : txQ x = true) (hk : ¬ txK x < 0) : afterBl x + 1 + txK x < x.s.length := by
  have b := afterBl_le g
  have hl := tx_lt g h
  have g0 := g.i0
  have hr := restS_len x.s (i := afterBl x + 1) (by omega) (by omega)
  have hi := indexByte_lt (restS x.s (afterBl x + 1)) 34
  unfold txK at hk ⊢
  omega
theorem txI_in {x : Sc} (g : InSc x) : InSc (mv x (txI x)) := by
  have b := afterBl_le g
  have g0 := g.i0
  cases h : txB x with
  | false => unfold txI; rw [h]; exact afterBl_in g
  | true =>
    have h' := h
    unfold txB at h'
    simp only [Bool.and_eq_true, Bool.not_eq_true', decide_eq_false_iff_not] at h'
    have := txK_lt g h'.1 h'.2
    unfold txI; rw [h]
    exact mv_in g (by simp only [cond_true]; omega) (by simp only [cond_true]; omega)
theorem tx_at : SumAt 209 txF.sum := fn_at (callSOK sm7_ok) fun x a hx _ _ => by
  have hx : inSc x = true := hx
  have g := inSc_iff.1 hx
  have b := afterBl_le g
  have g2 := g.s
  have hin := inSc_iff.2 (txI_in g)
  have hin0 := inSc_iff.2 (afterBl_in g)
  refine (tx_ev x).trans ?_
  show _ = some (txP x, (txV x, txB x), mv x (txI x))
  rw [hx, hin0, okSB (l := []) (by simp)]
  cases hq : txQ x with
  | false =>
    have hq' : (peekM (mv x (afterBl x)) == 34) = false := hq
    have hB : txB x = false := by unfold txB; rw [hq]; rfl
    have hP : txP x = false := by unfold txP; rw [hq]; rfl
    unfold txV txI
    rw [hq', hB, hP]; rfl
  | true =>
    have hq' : (peekM (mv x (afterBl x)) == 34) = true := hq
    have hl := tx_lt g hq
    rw [hq', show decide (afterBl x + 1 ≤ x.s.length ∧ (x.s.length : Int) ≤ x.s.length) = true from decide_eq_true ⟨by omega, Int.le_refl _⟩]
    by_cases hk : txK x < 0
    · have hB : txB x = false := by unfold txB; rw [decide_eq_true hk, Bool.not_true, Bool.and_false]
      have hP : txP x = true := by unfold txP; rw [hq, decide_eq_true hk]; rfl
      unfold txV txI
      rw [hB, hP, decide_eq_true hk]; rfl
    · have hB : txB x = true := by unfold txB; rw [hq, decide_eq_false hk]; rfl
      have hP : txP x = false := by unfold txP; rw [decide_eq_false hk, Bool.and_false]
      have hlt := txK_lt g hq hk
      have hin' : inSc (mv x (afterBl x + (txK x + 2))) = true := by
        have := hin
        unfold txI at this; rw [hB] at this; exact this
      have hs := subS_len x.s (afterBl x + 1) (afterBl x + 1 + txK x)
      unfold txV txI
      rw [hB, hP, decide_eq_false hk, show decide (afterBl x + 1 ≤ afterBl x + 1 + txK x ∧ afterBl x + 1 + txK x ≤ x.s.length) = true from decide_eq_true ⟨by omega, by omega⟩, hin', okSB (by omega)]
      rfl
end Go.Proofs.YtlmacdfbdhpljaaGreatDoor
