/- Own text: what stands between operators; brackets; names. -/
import Derived.Test.YtlmacdfbdhpljaaGreatDoorSo2
namespace Go.Proofs.YtlmacdfbdhpljaaGreatDoor
open Go.Ev Go.Ev.Tr Go.Proofs
set_option maxRecDepth 1000000
noncomputable def smG (pe : Sc → Int → Bool) (e : ExM) (pa : Sc → Bool) (a : AtM) (pi : Sc → Bool) (i : AtM) (pn : Sc → Bool) (m : AtM) (f : Nat) : Option Summ := match Nat.beq f 116 with
  | true => some (atF inside0 pi i).sum
  | false => match Nat.beq f 117 with
    | true => some (atF named0 pn m).sum
    | false => smE pe e pa a f
/-- A call that reads on, and what is made of its answer. -/
def onT (x y : Sc) (p : Sc → Bool) (a : AtM) (mk : Dv → Dv) : Option (Bool × Dv × Sc) := bif inSc y && p y then bif (a y).1 then exAns true (upd x (a y).2.2) .nilp else exAns false (upd x (a y).2.2) (mk (a y).2.1) else none
def numN (place n : Int) : Dv := mkN [110, 117, 109, 98, 101, 114] place n [] .nils
def nameN (place : Int) (w : List UInt8) : Dv := mkN [110, 97, 109, 101] place 0 w .nils
def unN (op : List UInt8) (place : Int) (d : Dv) : Dv := mkN op place 0 [] (.sl 1 [d])
/-- A number of a base. -/
def dgTr (b : Int) (y : Sc) (place : Int) : Option (Bool × Dv × Sc) := bif inSc y && true then bif dgP b y then exAns true (dgE b y) .nilp else exAns false (dgE b y) (numN place (dgR b y)) else none
def bl (x : Sc) : Sc := mv x (afterBl x)
def bl1 (x : Sc) : Sc := mv x (afterBl x + 1)
def atomR (pa : Sc → Bool) (a : AtM) (pi : Sc → Bool) (i : AtM) (pn : Sc → Bool) (m : AtM) (x : Sc) : Option (Bool × Dv × Sc) :=
  bif inSc x && true then bif inSc (bl x) && true then
    bif afterBl x == (x.s.length : Int) then exAns true (bl x) .nilp
    else bif peekM (bl x) == 45 then bif peekM (bl x) == 45 then onT x (bl1 x) pa a (unN [110, 101, 103] (afterBl x)) else onT x (bl1 x) pa a (unN [126] (afterBl x))
    else bif peekM (bl x) == 126 then bif peekM (bl x) == 45 then onT x (bl1 x) pa a (unN [110, 101, 103] (afterBl x)) else onT x (bl1 x) pa a (unN [126] (afterBl x))
    else bif digitB (peekM (bl x)) then dgTr 10 (bl x) (afterBl x)
    else bif peekM (bl x) == 36 then dgTr 16 (bl1 x) (afterBl x)
    else bif peekM (bl x) == 37 then dgTr 2 (bl1 x) (afterBl x)
    else bif peekM (bl x) == 39 then bif inSc (bl x) && decide (afterBl x < x.s.length) then bif chP (bl x) then exAns true (mv (bl x) (chI (bl x))) .nilp else exAns false (mv (bl x) (chI (bl x))) (numN (afterBl x) (chV (bl x))) else none
    else bif peekM (bl x) == 64 then exAns false (bl1 x) (mkN [64] (afterBl x) 0 [] .nils)
    else bif peekM (bl x) == 40 then onT x (bl x) pi i (fun d => d)
    else onT x (bl x) pn m (fun d => d)
  else none else none
theorem atom_ev (pe : Sc → Int → Bool) (e : ExM) (pa : Sc → Bool) (a : AtM) (pi : Sc → Bool) (i : AtM) (pn : Sc → Bool) (m : AtM) (x : Sc) : atom0.evM (evHook (smG pe e pa a pi i pn m) (fun _ => none) atom0) x () = atomR pa a pi i pn m x := by kernel_rfl
/-- Behind an open bracket. -/
def brk (x : Sc) : Sc := ⟨x.s, afterBl x + 1, x.o + 1, x.full, x.scope, x.lost⟩
/-- Its end. -/
def unbr (y : Sc) : Sc := mv y (nd1 y 41).2
def cls (y : Sc) : Sc := ⟨y.s, y.i, y.o - 1, y.full, y.scope, y.lost⟩
def insideR (pe : Sc → Int → Bool) (e : ExM) (x : Sc) : Option (Bool × Dv × Sc) :=
  bif inSc x && true then bif inSc (bl x) && true then
    bif !(peekM (bl x) == 40) then exAns true (bl x) .nilp
    else bif x.o == 20 then exAns true (bl x) .nilp
    else bif okI6 0 && inSc (brk x) && pe (brk x) 0 then
      bif (e (brk x) 0).1 then exAns true (upd x (e (brk x) 0).2.2) .nilp
      else bif inSc (upd x (e (brk x) 0).2.2) && true then
        bif !(nd1 (upd x (e (brk x) 0).2.2) 41).1 then exAns true (unbr (upd x (e (brk x) 0).2.2)) .nilp
        else exAns false (cls (unbr (upd x (e (brk x) 0).2.2))) (e (brk x) 0).2.1
      else none
    else none
  else none else none
theorem inside_ev (pe : Sc → Int → Bool) (e : ExM) (pa : Sc → Bool) (a : AtM) (x : Sc) : inside0.evM (evHook (smE pe e pa a) (fun _ => none) inside0) x () = insideR pe e x := by kernel_rfl
/-- Behind a word. -/
def wd (x : Sc) : Sc := mv x (wordI x)
def ptd (y : Sc) : Sc := mv y (y.i + 1)
def ptT (x y : Sc) : Option (Bool × Dv × Sc) := bif inSc (ptd y) && true then
    bif wordP (ptd y) then exAns true (wd (ptd y)) .nilp
    else bif bytesEq (wordV (ptd y)) [] then exAns true (wd (ptd y)) .nilp
    else bif decide (1 + (wordV (ptd y)).length ≤ 281474976710656) then bif decide ((wordV x).length + ([46] ++ wordV (ptd y)).length ≤ 281474976710656) then exAns false (wd (ptd y)) (nameN x.i (wordV x ++ ([46] ++ wordV (ptd y)))) else none else none
  else none
def wordT (pi : Sc → Bool) (i : AtM) (x : Sc) : Option (Bool × Dv × Sc) := bif inSc x && true then
    bif wordP x then exAns true (wd x) .nilp
    else bif bytesEq (wordV x) [] then exAns true (wd x) .nilp
    else bif bytesEq (wordV x) [104, 105, 103, 104] then onT x (wd x) pi i (unN (wordV x) x.i)
    else bif bytesEq (wordV x) [108, 111, 119] then onT x (wd x) pi i (unN (wordV x) x.i)
    else bif okCs [KS.s] [SV.s (wordV x)] && true && true then
      bif anyOf (wordV x) resTab then exAns true (wd x) .nilp
      else bif x.full then bif inSc (wd x) && true then bif peekM (wd x) == 46 then ptT x (wd x) else exAns false (wd x) (nameN x.i (wordV x)) else none
      else exAns false (wd x) (nameN x.i (wordV x))
    else none
  else none
def namedR (pi : Sc → Bool) (i : AtM) (x : Sc) : Option (Bool × Dv × Sc) :=
  bif x.full then
    bif inSc x && true then
      bif peekM x == 46 then bif inSc x && decide (x.i < x.s.length) then
        bif locP x then exAns true (locS x) .nilp else bif bytesEq x.scope [] then exAns false (locS x) (nameN x.i []) else exAns false (locS x) (nameN x.i (locV x))
      else none
      else wordT pi i x
    else none
  else wordT pi i x
theorem named_ev (pe : Sc → Int → Bool) (e : ExM) (pa : Sc → Bool) (a : AtM) (pi : Sc → Bool) (i : AtM) (pn : Sc → Bool) (m : AtM) (x : Sc) : named0.evM (evHook (smG pe e pa a pi i pn m) (fun _ => none) named0) x () = namedR pi i x := by kernel_rfl
end Go.Proofs.YtlmacdfbdhpljaaGreatDoor
