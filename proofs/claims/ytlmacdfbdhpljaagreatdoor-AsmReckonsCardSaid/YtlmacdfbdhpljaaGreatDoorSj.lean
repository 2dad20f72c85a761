/- Own text: operators of a scanner. -/
import Derived.Test.YtlmacdfbdhpljaaGreatDoorXs
namespace Go.Proofs.YtlmacdfbdhpljaaGreatDoor
open Go.Ev Go.Ev.Tr Go.Proofs
set_option maxRecDepth 1000000
noncomputable def sm8 (f : Nat) : Option Summ := match Nat.beq f 115 with
  | true => some chF.sum
  | false => match Nat.beq f 232 with
    | true => some sgF.sum
    | false => match Nat.beq f 209 with
      | true => some txF.sum
      | false => sm7 f
theorem sm8_ok : ∀ f s, sm8 f = some s → SumAt f s := sm_cons (sm_cons (sm_cons sm7_ok tx_at) sg_at) ch_at
def op0 : SFn0 Sc Int (List UInt8 × Int) := mkFn 75 scB (cInj .i64 0 5) (cStrC (cInt .i64 0 281474976710656)) (false, ([], 0), sc0)
/-! ### signs that must come -/
def needT {β : Type} (y : Sc) (bad good : Sc → Option β) : List Int → Option β
  | [] => good y
  | c :: r => bif y.i == y.s.length then bad y else bif decide (0 ≤ y.i ∧ y.i < y.s.length) then
      bif !(byteA y.s y.i == c) then bad y else needT (mv y (y.i + 1)) bad good r
    else none
/-- Do they come; the place behind them. -/
def needE (y : Sc) : List Int → Bool × Int
  | [] => (true, y.i)
  | c :: r => bif y.i == y.s.length then (false, y.i) else bif !(byteA y.s y.i == c) then (false, y.i) else needE (mv y (y.i + 1)) r
theorem needT_eq {β : Type} {bad good : Sc → Option β} : ∀ (cs : List Int) {y : Sc}, InSc y → needT y bad good cs = (bif (needE y cs).1 then good (mv y (needE y cs).2) else bad (mv y (needE y cs).2)) ∧ InSc (mv y (needE y cs).2)
  | [], y, h => ⟨rfl, h⟩
  | c :: r, y, h => by
    have h0 := h.i0; have h1 := h.i1
    unfold needT needE
    cases he : (y.i == (y.s.length : Int)) with
    | true => exact ⟨rfl, h⟩
    | false =>
      have hlt : y.i < y.s.length := by
        have : y.i ≠ y.s.length := by simpa using he
        omega
      rw [show decide (0 ≤ y.i ∧ y.i < y.s.length) = true from decide_eq_true ⟨h0, hlt⟩]
      cases hc : byteA y.s y.i == c with
      | false => exact ⟨rfl, h⟩
      | true =>
        obtain ⟨g1, g2⟩ := needT_eq (bad := bad) (good := good) r (mv_in h (i := y.i + 1) (by omega) (by omega))
        exact ⟨g1, g2⟩
/-! ### operators -/
abbrev OpE := Int × (List Int × List UInt8)
def rankTab : List (List OpE) := [[(124, [124], [124])], [(94, [94], [94])], [(38, [38], [38])], [(60, [60, 60], [60, 60]), (62, [62, 62], [62, 62])], [(43, [43], [43]), (45, [45], [45])], [(42, [42], [42]), (47, [47], [47]), (37, [37], [37])]]
abbrev OpR := Option (Bool × (List UInt8 × Int) × Sc)
def okSI (w : List UInt8) (n : Int) : Bool := okCs [KS.s, KS.i .i64 0 281474976710656] [SV.s w, SV.i n]
def opNone (x : Sc) : OpR := bif inSc x && okSI [] 0 then some (false, ([], 0), x) else none
def opAt (x : Sc) : Sc := mv x (afterBl x)
def opGo (x : Sc) (cs : List Int) (w : List UInt8) : OpR := bif inSc (opAt x) && true then
    needT (opAt (opAt x)) (fun y => bif inSc y && okSI [] 0 then some (true, ([], 0), y) else none) (fun y => bif inSc y && okSI w (afterBl x) then some (false, (w, afterBl x), y) else none) cs
  else none
def rankT (x : Sc) : List OpE → OpR
  | [] => opNone x
  | e :: r => bif peekM (opAt x) == e.1 then opGo x e.2.1 e.2.2 else rankT x r
def opT (x : Sc) (n : Int) : Int → List (List OpE) → OpR
  | _, [] => opNone x
  | k, l :: r => bif n == k then rankT x l else opT x n (k + 1) r
theorem op_ev (x : Sc) (n : Int) : op0.evM (evOf (callS sm8) op0) x n = bif inSc x && true then bif inSc (opAt x) && true then opT x n 0 rankTab else none else none := by kernel_rfl
abbrev OpC := Option (List Int × List UInt8)
def rankC (c : Int) : List OpE → OpC
  | [] => none
  | e :: r => bif c == e.1 then some e.2 else rankC c r
def opC (c n : Int) : Int → List (List OpE) → OpC
  | _, [] => none
  | k, l :: r => bif n == k then rankC c l else opC c n (k + 1) r
/-- Which operator comes. -/
def opSel (x : Sc) (n : Int) : OpC := opC (peekM (opAt x)) n 0 rankTab
def opEnd (x : Sc) : OpC → Bool × Int
  | none => (true, x.i)
  | some e => needE (opAt (opAt x)) e.1
def opAns (x : Sc) (b : Bool) : OpC → List UInt8 × Int
  | none => ([], 0)
  | some e => bif b then (e.2, afterBl x) else ([], 0)
def opP (x : Sc) (n : Int) : Bool := !(opEnd x (opSel x n)).1
def opV (x : Sc) (n : Int) : List UInt8 × Int := opAns x (opEnd x (opSel x n)).1 (opSel x n)
def opI (x : Sc) (n : Int) : Int := (opEnd x (opSel x n)).2
def opF : SFn Sc Int (List UInt8 × Int) := ⟨op0, fun _ _ => true, fun x n => (opP x n, opV x n, mv x (opI x n))⟩
def opM (x : Sc) (o : OpC) : Bool × (List UInt8 × Int) × Sc := (!(opEnd x o).1, opAns x (opEnd x o).1 o, mv x (opEnd x o).2)
theorem okSI_of {w : List UInt8} {n : Int} (h : w.length ≤ 281474976710656) (h0 : 0 ≤ n) (h1 : n ≤ 281474976710656) : okSI w n = true := by
  simp only [okSI, okCs, okK, Bool.and_true, Bool.and_eq_true, decide_eq_true_eq]
  exact ⟨h, h0, h1⟩
theorem opAt_in {x : Sc} (h : InSc x) : InSc (opAt x) := afterBl_in h
theorem opNone_eq {x : Sc} (g : InSc x) : opNone x = some (opM x none) := by
  unfold opNone
  rw [inSc_iff.2 g, okSI_of (by simp) (by omega) (by omega)]; rfl
theorem opGo_eq {x : Sc} (g : InSc x) {e : List Int × List UInt8} (hw : e.2.length ≤ 2) : opGo x e.1 e.2 = some (opM x (some e)) := by
  have ga := opAt_in g
  have gb := opAt_in ga
  have b := afterBl_le g
  have g0 := g.i0; have g2 := g.s
  unfold opGo
  rw [inSc_iff.2 ga]
  obtain ⟨e1, e2⟩ := needT_eq (bad := fun y => bif inSc y && okSI [] 0 then some (true, (([] : List UInt8), (0 : Int)), y) else none) (good := fun y => bif inSc y && okSI e.2 (afterBl x) then some (false, (e.2, afterBl x), y) else none) e.1 gb
  rw [e1, inSc_iff.2 e2, okSI_of (w := []) (n := 0) (by simp) (by omega) (by omega), okSI_of (w := e.2) (n := afterBl x) (by omega) (by omega) (by omega)]
  simp only [cond_true, Bool.and_true, opM, opEnd, opAns]
  cases (needE (opAt (opAt x)) e.1).1 <;> rfl
theorem rankT_eq {x : Sc} (g : InSc x) : ∀ l : List OpE, (∀ e ∈ l, e.2.2.length ≤ 2) → rankT x l = some (opM x (rankC (peekM (opAt x)) l))
  | [], _ => opNone_eq g
  | e :: r, h => by
    unfold rankT rankC
    cases peekM (opAt x) == e.1 with
    | true => exact opGo_eq g (h e List.mem_cons_self)
    | false => exact rankT_eq g r fun e he => h e (List.mem_cons_of_mem _ he)
theorem opT_eq {x : Sc} (g : InSc x) (n : Int) : ∀ (tab : List (List OpE)) (k : Int), (∀ l ∈ tab, ∀ e ∈ l, e.2.2.length ≤ 2) → opT x n k tab = some (opM x (opC (peekM (opAt x)) n k tab))
  | [], _, _ => opNone_eq g
  | l :: r, k, h => by
    unfold opT opC
    cases n == k with
    | true => exact rankT_eq g l (h l List.mem_cons_self)
    | false => exact opT_eq g n r (k + 1) fun l hl => h l (List.mem_cons_of_mem _ hl)
theorem op_at : SumAt 75 opF.sum := fn_at (callSOK sm8_ok) fun x n hx _ _ => by
  have hx : inSc x = true := hx
  have g := inSc_iff.1 hx
  refine (op_ev x n).trans ?_
  rw [hx, inSc_iff.2 (opAt_in g), opT_eq g n rankTab 0 (by decide)]
  rfl
theorem opI_in {x : Sc} (g : InSc x) (n : Int) : InSc (mv x (opI x n)) := by
  unfold opI
  cases opSel x n with
  | none => exact g
  | some e => exact (needT_eq (β := Unit) (bad := fun _ => none) (good := fun _ => none) e.1 (opAt_in (opAt_in g))).2
end Go.Proofs.YtlmacdfbdhpljaaGreatDoor
