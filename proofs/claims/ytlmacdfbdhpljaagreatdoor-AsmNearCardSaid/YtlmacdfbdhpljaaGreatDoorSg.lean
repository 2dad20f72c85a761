/- Own text: more of the scanner's functions. -/
import Derived.Test.YtlmacdfbdhpljaaGreatDoorSf
namespace Go.Proofs.YtlmacdfbdhpljaaGreatDoor
open Go.Ev Go.Ev.Tr Go.Proofs
set_option maxRecDepth 1000000
/-! ### reserved -/
def anyOf (w : List UInt8) : List (List UInt8) → Bool
  | [] => false
  | a :: r => bif bytesEq w a then true else anyOf w r
def resTab : List (List UInt8) := [[110, 111, 112], [108, 100], [115, 116, 111, 112], [106, 114], [97, 100, 100], [105, 110, 99], [100, 101, 99], [104, 97, 108, 116], [114, 101, 116], [108, 100, 104], [112, 111, 112], [114, 101, 116, 105], [106, 112], [100, 105], [101, 105], [99, 97, 108, 108], [112, 117, 115, 104], [114, 115, 116], [98, 105, 116], [114, 101, 115], [115, 101, 116], [98], [99], [100], [101], [104], [108], [97], [104, 108], [98, 99], [100, 101], [115, 112], [97, 102], [110, 122], [122], [110, 99], [97, 100, 99], [115, 117, 98], [115, 98, 99], [97, 110, 100], [120, 111, 114], [111, 114], [99, 112], [114, 108, 99], [114, 114, 99], [114, 108], [114, 114], [115, 108, 97], [115, 114, 97], [115, 119, 97, 112], [115, 114, 108], [114, 108, 99, 97], [114, 114, 99, 97], [114, 108, 97], [114, 114, 97], [100, 97, 97], [99, 112, 108], [115, 99, 102], [99, 99, 102], [100, 98], [100, 119], [100, 115], [111, 114, 103], [101, 113, 117], [104, 105, 103, 104], [108, 111, 119]]
def anyO (w : List UInt8) : List (List UInt8) → Option (Bool × Bool × Unit)
  | [] => some (false, false, ())
  | a :: r => bif bytesEq w a then some (false, true, ()) else anyO w r
theorem anyO_eq (w : List UInt8) : ∀ l, anyO w l = some (false, anyOf w l, ())
  | [] => rfl
  | a :: r => by
    unfold anyO anyOf
    cases bytesEq w a with
    | true => rfl
    | false => exact anyO_eq w r
def resF : SFn Unit (List UInt8) Bool := ⟨reserved0, fun _ _ => true, fun _ w => (false, anyOf w resTab, ())⟩
theorem res_ev (w : List UInt8) : reserved0.evM (evOf (callS sm4) reserved0) () w = anyO w resTab := by kernel_rfl
theorem res_at : SumAt 164 resF.sum := fn_at (callSOK sm4_ok) fun _ w _ _ _ => (res_ev w).trans (anyO_eq w resTab)
/-! ### end -/
def endF : SFn Sc Unit Unit := ⟨end0, fun _ _ => true, fun x _ => (decide (afterBl x < x.s.length), (), mv x (afterBl x))⟩
theorem end_ev (x : Sc) : end0.evM (evOf (callS sm4) end0) x () = bif inSc x && true then
    bif decide (afterBl x < x.s.length) then bif inSc (mv x (afterBl x)) && true then some (true, (), mv x (afterBl x)) else none
    else bif inSc (mv x (afterBl x)) && true then some (false, (), mv x (afterBl x)) else none
  else none := by kernel_rfl
theorem end_at : SumAt 205 endF.sum := fn_at (callSOK sm4_ok) fun x a hx _ _ => by
  have hx : inSc x = true := hx
  refine (end_ev x).trans ?_
  rw [hx, inSc_iff.2 (afterBl_in (inSc_iff.1 hx))]
  show _ = some (decide (afterBl x < x.s.length), (), mv x (afterBl x))
  cases decide (afterBl x < x.s.length) <;> rfl
/-! ### local -/
def locX (x : Sc) : Sc := mv x (x.i + 1)
def locP (x : Sc) : Bool := wordP (locX x) || bytesEq (wordV (locX x)) []
def locV (x : Sc) : List UInt8 := bif locP x then [] else x.scope ++ [46] ++ wordV (locX x)
def locS (x : Sc) : Sc := ⟨x.s, wordI (locX x), x.o, x.full, x.scope, bif locP x then x.lost else bif bytesEq x.scope [] then true else x.lost⟩
def locF : SFn Sc Unit (List UInt8) := ⟨local0, fun x _ => decide (x.i < x.s.length), fun x _ => (locP x, locV x, locS x)⟩
theorem loc_ev (x : Sc) : local0.evM (evOf (callS sm4) local0) x () = bif inSc (locX x) && true then
    bif wordP (locX x) then bif inSc (mv x (wordI (locX x))) && okCs [KS.s] [SV.s []] then some (true, [], mv x (wordI (locX x))) else none
    else bif bytesEq (wordV (locX x)) [] then bif inSc (mv x (wordI (locX x))) && okCs [KS.s] [SV.s []] then some (true, [], mv x (wordI (locX x))) else none
    else bif bytesEq x.scope [] then
      bif decide (x.scope.length + 1 ≤ 281474976710656) then
        bif decide ((x.scope ++ [46]).length + (wordV (locX x)).length ≤ 281474976710656) then
          bif inSc ⟨x.s, wordI (locX x), x.o, x.full, x.scope, true⟩ && okCs [KS.s] [SV.s (x.scope ++ [46] ++ wordV (locX x))] then
            some (false, x.scope ++ [46] ++ wordV (locX x), ⟨x.s, wordI (locX x), x.o, x.full, x.scope, true⟩)
          else none
        else none
      else none
    else
      bif decide (x.scope.length + 1 ≤ 281474976710656) then
        bif decide ((x.scope ++ [46]).length + (wordV (locX x)).length ≤ 281474976710656) then
          bif inSc (mv x (wordI (locX x))) && okCs [KS.s] [SV.s (x.scope ++ [46] ++ wordV (locX x))] then
            some (false, x.scope ++ [46] ++ wordV (locX x), mv x (wordI (locX x)))
          else none
        else none
      else none
  else none := by kernel_rfl
theorem wordV_len (x : Sc) : (wordV x).length ≤ x.s.length := by
  unfold wordV
  cases wordP x with
  | true => simp
  | false => exact subS_len _ _ _
theorem loc_at : SumAt 162 locF.sum := fn_at (callSOK sm4_ok) fun x a hx _ hp => by
  have hx : inSc x = true := hx
  have hp : x.i < x.s.length := of_decide_eq_true hp
  have g := inSc_iff.1 hx
  have g0 := g.i0
  have gl : InSc (locX x) := mv_in g (by omega) (by omega)
  have gw : InSc (mv x (wordI (locX x))) := wordI_in gl
  have gt : InSc ⟨x.s, wordI (locX x), x.o, x.full, x.scope, true⟩ := ⟨gw.i0, gw.i1, gw.s, gw.o0, gw.o1, gw.scope⟩
  have hlen : (wordV (locX x)).length ≤ x.s.length := wordV_len (locX x)
  have hs := g.s; have hsc := g.scope
  have d1 : decide (x.scope.length + 1 ≤ 281474976710656) = true := decide_eq_true (by omega)
  have l1 : (x.scope ++ ([46] : List UInt8)).length = x.scope.length + 1 := by simp
  have d2 : decide ((x.scope ++ ([46] : List UInt8)).length + (wordV (locX x)).length ≤ 281474976710656) = true := decide_eq_true (by omega)
  have d3 : okCs [KS.s] [SV.s (x.scope ++ ([46] : List UInt8) ++ wordV (locX x))] = true := okS (by rw [List.length_append]; omega)
  refine (loc_ev x).trans ?_
  rw [inSc_iff.2 gl, inSc_iff.2 gw, inSc_iff.2 gt, okS (l := []) (by simp), d1, d2, d3]
  show _ = some (locP x, locV x, locS x)
  unfold locV locS locP
  cases wordP (locX x) <;> cases bytesEq (wordV (locX x)) [] <;> cases bytesEq x.scope [] <;> rfl
end Go.Proofs.YtlmacdfbdhpljaaGreatDoor
