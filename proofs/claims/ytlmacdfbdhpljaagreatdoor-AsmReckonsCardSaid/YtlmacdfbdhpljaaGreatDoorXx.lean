/- Own text: a scanner that stands within a text; what its readers make of it. -/
import Derived.Test.YtlmacdfbdhpljaaGreatDoorSo4
import Derived.Test.YtlmacdfbdhpljaaGreatDoorSw1
namespace Go.Proofs.YtlmacdfbdhpljaaGreatDoor
open Go.Ev Go.Ev.Tr Go.Proofs
set_option maxRecDepth 1000000
/-- Behind pre, before w. -/
def scA (pre w : List UInt8) (o : Int) : Sc := ⟨pre ++ w, pre.length, o, false, [], false⟩
structure Fits (pre w : List UInt8) (o : Int) : Prop where
  len : pre.length + w.length ≤ 1000
  o0 : 0 ≤ o
  o1 : o ≤ 32
theorem scA_in {pre w : List UInt8} {o : Int} (h : Fits pre w o) : inSc (scA pre w o) = true := by
  obtain ⟨h1, h2, h3⟩ := h
  refine inSc_iff.2 ⟨?_, ?_, ?_, h2, h3, ?_⟩
  · show (0 : Int) ≤ (pre.length : Int); omega
  · show (pre.length : Int) ≤ ((pre ++ w).length : Int); rw [List.length_append]; omega
  · show (pre ++ w).length ≤ _; rw [List.length_append]; omega
  · show (0 : Nat) ≤ _; omega
theorem scA_drop (pre w : List UInt8) (o : Int) : (scA pre w o).s.drop (scA pre w o).i.toNat = w := by
  show (pre ++ w).drop ((pre.length : Int)).toNat = w
  simp
theorem scA_mv (pre u w : List UInt8) (o : Int) : mv (scA pre (u ++ w) o) (pre.length + u.length) = scA (pre ++ u) w o := by
  unfold mv scA
  simp
theorem scA_len (pre w : List UInt8) (o : Int) : (scA pre w o).s.length = pre.length + w.length := by
  show (pre ++ w).length = _
  rw [List.length_append]
/-- No blank comes. -/
def NoBl (w : List UInt8) : Prop := spanN isBl w = 0
/-- A blank, or none. -/
def Sp (sp : List UInt8) : Prop := sp = [] ∨ sp = [32]
theorem scA_bl {pre sp w : List UInt8} {o : Int} (hs : Sp sp) (hw : NoBl w) : bl (scA pre (sp ++ w) o) = scA (pre ++ sp) w o := by
  unfold bl
  rw [← scA_mv]
  congr 1
  unfold afterBl
  rw [scA_drop]
  have hw : spanN isBl w = 0 := hw
  rcases hs with rfl | rfl
  · rw [List.nil_append, hw]; rfl
  · show (pre.length : Int) + ((bif isBl 32 then spanN isBl w + 1 else 0 : Nat) : Int) = _
    rw [hw]; rfl
theorem scA_after {pre sp w : List UInt8} {o : Int} (hs : Sp sp) (hw : NoBl w) : afterBl (scA pre (sp ++ w) o) = (pre.length + sp.length : Nat) := by
  have h := congrArg Sc.i (scA_bl (pre := pre) (o := o) hs hw)
  have e : (scA (pre ++ sp) w o).i = ((pre ++ sp).length : Int) := rfl
  rw [e, List.length_append] at h
  exact h
/-- What comes first; 0 at the end. -/
def hdB : List UInt8 → Int
  | [] => 0
  | c :: _ => (c.toNat : Int)
theorem scA_peek (pre w : List UInt8) (o : Int) : peekM (scA pre w o) = hdB w := by
  unfold peekM
  rw [scA_len]
  have e : (scA pre w o).i = (pre.length : Int) := rfl
  rw [e]
  cases w with
  | nil =>
    rw [show ((pre.length : Int) == ((pre.length + ([] : List UInt8).length : Nat) : Int)) = true by simp]; rfl
  | cons c r =>
    rw [show ((pre.length : Int) == ((pre.length + (c :: r).length : Nat) : Int)) = false by simp; omega]
    show byteA (pre ++ c :: r) (pre.length : Int) = (c.toNat : Int)
    unfold byteA
    simp [List.getD_eq_getElem?_getD]
theorem upd_sc {pre u w : List UInt8} {o o' : Int} : upd (scA pre (u ++ w) o) (toMv (scA (pre ++ u) w o')) = scA (pre ++ u) w o' := by
  unfold upd toMv scA
  simp
theorem exAns_ok {y : Sc} {b : Bool} {d : Dv} (h : inSc y = true) : exAns b y d = some (b, d, y) := by
  unfold exAns
  rw [h, okDv]; rfl
/-! ### what is read at every level from one on -/
def AT (K : Nat) (x y : Sc) (d : Dv) : Prop := ∀ k, K ≤ k → (lv k).pa x = true ∧ (lv k).a x = (false, d, toMv y)
def IT (K : Nat) (x y : Sc) (d : Dv) : Prop := ∀ k, K ≤ k → (lv k).pi x = true ∧ (lv k).i x = (false, d, toMv y)
def NT (K : Nat) (x y : Sc) (d : Dv) : Prop := ∀ k, K ≤ k → (lv k).pn x = true ∧ (lv k).m x = (false, d, toMv y)
def EX (K : Nat) (n : Int) (x y : Sc) (d : Dv) : Prop := ∀ k, K ≤ k → (lv k).pe x n = true ∧ (lv k).e x n = (false, d, toMv y)
theorem AT.of {K : Nat} {x y : Sc} {d : Dv} (h : ∀ k, K ≤ k → atomR (lv k).pa (lv k).a (lv k).pi (lv k).i (lv k).pn (lv k).m x = some (false, d, y)) : AT (K + 1) x y d := fun k hk => by
  obtain ⟨j, rfl⟩ : ∃ j, k = j + 1 := ⟨k - 1, by omega⟩
  have h := h j (by omega)
  refine ⟨?_, ?_⟩
  · show (atomR _ _ _ _ _ _ x).isSome = true
    rw [h]; rfl
  · show getT (atomR _ _ _ _ _ _) x = _
    unfold getT
    rw [h]
theorem IT.of {K : Nat} {x y : Sc} {d : Dv} (h : ∀ k, K ≤ k → insideR (lv k).pe (lv k).e x = some (false, d, y)) : IT (K + 1) x y d := fun k hk => by
  obtain ⟨j, rfl⟩ : ∃ j, k = j + 1 := ⟨k - 1, by omega⟩
  have h := h j (by omega)
  refine ⟨?_, ?_⟩
  · show (insideR _ _ x).isSome = true
    rw [h]; rfl
  · show getT (insideR _ _) x = _
    unfold getT
    rw [h]
theorem NT.of {K : Nat} {x y : Sc} {d : Dv} (h : ∀ k, K ≤ k → namedR (lv k).pi (lv k).i x = some (false, d, y)) : NT (K + 1) x y d := fun k hk => by
  obtain ⟨j, rfl⟩ : ∃ j, k = j + 1 := ⟨k - 1, by omega⟩
  have h := h j (by omega)
  refine ⟨?_, ?_⟩
  · show (namedR _ _ x).isSome = true
    rw [h]; rfl
  · show getT (namedR _ _) x = _
    unfold getT
    rw [h]
theorem EX.of {K : Nat} {n : Int} {x y : Sc} {d : Dv} (h : ∀ k, K ≤ k → exprM (lv k).pe (lv k).e (lv k).pa (lv k).a x n = some (false, d, toMv y)) : EX (K + 1) n x y d := fun k hk => by
  obtain ⟨j, rfl⟩ : ∃ j, k = j + 1 := ⟨k - 1, by omega⟩
  have h := h j (by omega)
  refine ⟨?_, ?_⟩
  · show (exprM _ _ _ _ x n).isSome = true
    rw [h]; rfl
  · show (exprM _ _ _ _ x n).getD exD = _
    rw [h]; rfl
theorem onT_ok {x y z : Sc} {p : Sc → Bool} {a : AtM} {mk : Dv → Dv} {d : Dv} (hy : inSc y = true) (h : p y = true ∧ a y = (false, d, toMv z)) (hz : upd x (toMv z) = z) (hi : inSc z = true) : onT x y p a mk = some (false, mk d, z) := by
  unfold onT
  rw [hy, h.1, h.2]
  simp only [Bool.and_self, cond_true, cond_false]
  rw [hz, exAns_ok hi]
/-! ### brackets -/
theorem IT.par {K : Nat} {pre w rest : List UInt8} {o : Int} {d : Dv} (hf : Fits pre (40 :: (w ++ 41 :: rest)) o) (ho : o < 20) (h : EX K 0 (scA (pre ++ [40]) (w ++ 41 :: rest) (o + 1)) (scA (pre ++ [40] ++ w) (41 :: rest) (o + 1)) d) :
    IT (K + 1) (scA pre (40 :: (w ++ 41 :: rest)) o) (scA (pre ++ (40 :: (w ++ [41]))) rest o) d := IT.of fun k hk => by
  obtain ⟨h1, h2⟩ := h k hk
  obtain ⟨f1, f2, f3⟩ := hf
  simp only [List.length_cons, List.length_append] at f1
  have hb : bl (scA pre (40 :: (w ++ 41 :: rest)) o) = scA pre (40 :: (w ++ 41 :: rest)) o := by
    have := scA_bl (pre := pre) (sp := []) (w := 40 :: (w ++ 41 :: rest)) (o := o) (.inl rfl) rfl
    simpa using this
  have e1 : brk (scA pre (40 :: (w ++ 41 :: rest)) o) = scA (pre ++ [40]) (w ++ 41 :: rest) (o + 1) := by
    unfold brk
    rw [show afterBl (scA pre (40 :: (w ++ 41 :: rest)) o) = (pre.length : Int) from congrArg Sc.i hb]
    unfold scA
    simp
  unfold insideR
  rw [hb, scA_peek, e1, h1, h2, scA_in ⟨by simp only [List.length_cons, List.length_append]; omega, f2, f3⟩, scA_in (pre := pre ++ [40]) ⟨by simp only [List.length_cons, List.length_append, List.length_nil]; omega, by omega, by omega⟩]
  rw [show ((scA pre (40 :: (w ++ 41 :: rest)) o).o == 20) = false by show (o == 20) = false; simp; omega]
  have e2 : upd (scA pre (40 :: (w ++ 41 :: rest)) o) (toMv (scA (pre ++ [40] ++ w) (41 :: rest) (o + 1))) = scA (pre ++ [40] ++ w) (41 :: rest) (o + 1) := by
    unfold upd toMv scA
    simp
  have e3 : nd1 (scA (pre ++ [40] ++ w) (41 :: rest) (o + 1)) 41 = (true, (((pre ++ [40] ++ w).length : Nat) : Int) + 1) := by
    have ha : opAt (scA (pre ++ [40] ++ w) (41 :: rest) (o + 1)) = scA (pre ++ [40] ++ w) (41 :: rest) (o + 1) := by
      have := scA_bl (pre := pre ++ [40] ++ w) (sp := []) (w := 41 :: rest) (o := o + 1) (.inl rfl) rfl
      rw [List.append_nil, List.nil_append] at this
      exact this
    unfold nd1
    rw [ha]
    unfold needE
    have p := scA_peek (pre ++ [40] ++ w) (41 :: rest) (o + 1)
    unfold peekM at p
    have hne : ((scA (pre ++ [40] ++ w) (41 :: rest) (o + 1)).i == ((scA (pre ++ [40] ++ w) (41 :: rest) (o + 1)).s.length : Int)) = false := by
      rw [scA_len]
      show (((pre ++ [40] ++ w).length : Int) == _) = false
      simp; omega
    rw [hne] at p ⊢
    simp only [cond_false] at p ⊢
    rw [p]
    rfl
  have e4 : cls (unbr (scA (pre ++ [40] ++ w) (41 :: rest) (o + 1))) = scA (pre ++ (40 :: (w ++ [41]))) rest o := by
    unfold cls unbr
    rw [e3]
    unfold mv scA
    simp; omega
  simp only [Bool.and_self, cond_true, cond_false, hdB, Bool.and_true]
  rw [e2, scA_in (pre := pre ++ [40] ++ w) ⟨by simp only [List.length_cons, List.length_append, List.length_nil]; omega, by omega, by omega⟩, e3, e4]
  simp only [Bool.not_true, cond_false, cond_true]
  rw [show exAns false (scA (pre ++ (40 :: (w ++ [41]))) rest o) d = some (false, d, scA (pre ++ (40 :: (w ++ [41]))) rest o) from exAns_ok (scA_in ⟨by simp only [List.length_cons, List.length_append, List.length_nil]; omega, by omega, by omega⟩)]
  rfl
end Go.Proofs.YtlmacdfbdhpljaaGreatDoor

namespace Go.Proofs.YtlmacdfbdhpljaaGreatDoor
open Go.Ev Go.Ev.Tr Go.Proofs
set_option maxRecDepth 1000000
theorem fits_cut {pre u w : List UInt8} {o : Int} (h : Fits pre (u ++ w) o) : Fits (pre ++ u) w o := by
  obtain ⟨h1, h2, h3⟩ := h
  simp only [List.length_append] at h1
  exact ⟨by simp only [List.length_append]; omega, h2, h3⟩
theorem atomR_sc {pa : Sc → Bool} {a : AtM} {pi : Sc → Bool} {i : AtM} {pn : Sc → Bool} {m : AtM} {pre sp w : List UInt8} {c : UInt8} {o : Int} (hs : Sp sp) (hw : NoBl (c :: w)) (hf : Fits pre (sp ++ (c :: w)) o) :
    atomR pa a pi i pn m (scA pre (sp ++ (c :: w)) o) =
      bif ((c.toNat : Int) == 45) || ((c.toNat : Int) == 126) then bif (c.toNat : Int) == 45 then onT (scA pre (sp ++ (c :: w)) o) (scA (pre ++ sp ++ [c]) w o) pa a (unN [110, 101, 103] (pre.length + sp.length : Nat)) else onT (scA pre (sp ++ (c :: w)) o) (scA (pre ++ sp ++ [c]) w o) pa a (unN [126] (pre.length + sp.length : Nat))
      else bif digitB c.toNat then dgTr 10 (scA (pre ++ sp) (c :: w) o) (pre.length + sp.length : Nat)
      else bif (c.toNat : Int) == 36 then dgTr 16 (scA (pre ++ sp ++ [c]) w o) (pre.length + sp.length : Nat)
      else bif (c.toNat : Int) == 37 then dgTr 2 (scA (pre ++ sp ++ [c]) w o) (pre.length + sp.length : Nat)
      else bif (c.toNat : Int) == 39 then bif inSc (scA (pre ++ sp) (c :: w) o) && decide (((pre.length + sp.length : Nat) : Int) < ((scA pre (sp ++ (c :: w)) o).s.length : Int)) then bif chP (scA (pre ++ sp) (c :: w) o) then exAns true (mv (scA (pre ++ sp) (c :: w) o) (chI (scA (pre ++ sp) (c :: w) o))) .nilp else exAns false (mv (scA (pre ++ sp) (c :: w) o) (chI (scA (pre ++ sp) (c :: w) o))) (numN (pre.length + sp.length : Nat) (chV (scA (pre ++ sp) (c :: w) o))) else none
      else bif (c.toNat : Int) == 64 then exAns false (scA (pre ++ sp ++ [c]) w o) (mkN [64] (pre.length + sp.length : Nat) 0 [] .nils)
      else bif (c.toNat : Int) == 40 then onT (scA pre (sp ++ (c :: w)) o) (scA (pre ++ sp) (c :: w) o) pi i (fun d => d)
      else onT (scA pre (sp ++ (c :: w)) o) (scA (pre ++ sp) (c :: w) o) pn m (fun d => d) := by
  have hb := scA_bl (pre := pre) (o := o) hs hw
  have ha := scA_after (pre := pre) (o := o) hs hw
  have hb1 : bl1 (scA pre (sp ++ (c :: w)) o) = scA (pre ++ sp ++ [c]) w o := by
    unfold bl1
    rw [ha]
    unfold mv scA
    simp; omega
  unfold atomR
  rw [hb, hb1, ha, scA_in hf, scA_in (fits_cut hf), scA_peek]
  rw [show (((pre.length + sp.length : Nat) : Int) == ((scA pre (sp ++ (c :: w)) o).s.length : Int)) = false by rw [scA_len]; simp; omega]
  simp only [Bool.and_self, cond_true, cond_false, hdB]
  cases h1 : ((c.toNat : Int) == 45) <;> cases h2 : ((c.toNat : Int) == 126) <;> rfl
/-- No word goes on here. -/
def NoWd : List UInt8 → Prop
  | [] => True
  | c :: _ => isWd c = false
theorem noWd_at {pre w : List UInt8} {o : Int} (h : NoWd w) : atWd (scA pre w o) = false := by
  unfold atWd
  rw [scA_len]
  cases w with
  | nil =>
    rw [show decide ((scA pre [] o).i < ((pre.length + ([] : List UInt8).length : Nat) : Int)) = false from decide_eq_false (by show ¬ ((pre.length : Int) < _); simp)]; rfl
  | cons c r =>
    have p := scA_peek pre (c :: r) o
    unfold peekM at p
    rw [show ((scA pre (c :: r) o).i == ((scA pre (c :: r) o).s.length : Int)) = false by rw [scA_len]; show (((pre.length : Nat) : Int) == _) = false; simp; omega] at p
    simp only [cond_false] at p
    rw [p]
    have h : isWd c = false := h
    unfold isWd at h
    show (_ && (letterB (c.toNat : Int) || digitB (c.toNat : Int))) = false
    rw [h, Bool.and_false]
theorem dig_ne {c : UInt8} (h : digitB (c.toNat : Int) = true) : ((c.toNat : Int) == 45) = false ∧ ((c.toNat : Int) == 126) = false := by
  simp only [digitB, Bool.and_eq_true, decide_eq_true_eq] at h
  refine ⟨?_, ?_⟩ <;> simp <;> omega
theorem AT.num {K : Nat} {pre sp ds rest : List UInt8} {c : UInt8} {o n : Int} (hs : Sp sp) (hc : digitB (c.toNat : Int) = true) (hf : Fits pre (sp ++ ((c :: ds) ++ rest)) o) (hd : spanN (isDg 10) ((c :: ds) ++ rest) = (c :: ds).length) (hv : dgV 10 0 ((c :: ds) ++ rest) = n) (hr : NoWd rest) :
    AT (K + 1) (scA pre (sp ++ ((c :: ds) ++ rest)) o) (scA (pre ++ sp ++ (c :: ds)) rest o) (numN (pre.length + sp.length : Nat) n) := AT.of fun k hk => by
  have hw : NoBl ((c :: ds) ++ rest) := by
    show (bif isBl c then _ else 0) = 0
    have : isBl c = false := by
      simp only [digitB, Bool.and_eq_true, decide_eq_true_eq] at hc
      unfold isBl
      rw [Bool.or_eq_false_iff]
      refine ⟨?_, ?_⟩ <;> simp <;> omega
    rw [this]; rfl
  refine (atomR_sc (w := ds ++ rest) hs hw hf).trans ?_
  rw [(dig_ne hc).1, (dig_ne hc).2, hc]
  simp only [Bool.or_self, cond_true, cond_false]
  have e : dgE 10 (scA (pre ++ sp) (c :: (ds ++ rest)) o) = scA (pre ++ sp ++ (c :: ds)) rest o := by
    unfold dgE nDg
    rw [scA_drop, show c :: (ds ++ rest) = (c :: ds) ++ rest from rfl, hd]
    exact scA_mv (pre ++ sp) (c :: ds) rest o
  have p : dgP 10 (scA (pre ++ sp) (c :: (ds ++ rest)) o) = false := by
    unfold dgP
    rw [e, noWd_at hr]
    unfold nDg
    rw [scA_drop, show c :: (ds ++ rest) = (c :: ds) ++ rest from rfl, hd]
    simp
  have v : dgR 10 (scA (pre ++ sp) (c :: (ds ++ rest)) o) = n := by
    unfold dgR
    rw [p, scA_drop]
    exact hv
  unfold dgTr
  rw [e, p, v, scA_in (fits_cut (u := sp) (w := c :: (ds ++ rest)) hf)]
  simp only [Bool.and_self, cond_true, cond_false]
  refine exAns_ok (scA_in (fits_cut (fits_cut (u := sp) hf)))
theorem AT.neg {K : Nat} {pre sp w rest : List UInt8} {o : Int} {d : Dv} (hs : Sp sp) (hf : Fits pre (sp ++ (45 :: (w ++ rest))) o) (h : AT K (scA (pre ++ sp ++ [45]) (w ++ rest) o) (scA (pre ++ sp ++ [45] ++ w) rest o) d) :
    AT (K + 1) (scA pre (sp ++ (45 :: (w ++ rest))) o) (scA (pre ++ sp ++ [45] ++ w) rest o) (unN [110, 101, 103] (pre.length + sp.length : Nat) d) := AT.of fun k hk => by
  refine (atomR_sc (c := 45) (w := w ++ rest) hs rfl hf).trans ?_
  have f1 : Fits (pre ++ sp ++ [45]) (w ++ rest) o := fits_cut (u := [45]) (fits_cut hf)
  refine onT_ok (scA_in f1) (h k hk) ?_ (scA_in (fits_cut f1))
  unfold upd toMv scA
  simp
theorem AT.par {K : Nat} {pre sp w rest : List UInt8} {o : Int} {d : Dv} (hs : Sp sp) (hf : Fits pre (sp ++ (40 :: (w ++ rest))) o) (h : IT K (scA (pre ++ sp) (40 :: (w ++ rest)) o) (scA (pre ++ sp ++ (40 :: w)) rest o) d) :
    AT (K + 1) (scA pre (sp ++ (40 :: (w ++ rest))) o) (scA (pre ++ sp ++ (40 :: w)) rest o) d := AT.of fun k hk => by
  refine (atomR_sc (c := 40) (w := w ++ rest) hs rfl hf).trans ?_
  have f1 : Fits (pre ++ sp) ((40 :: w) ++ rest) o := fits_cut hf
  refine onT_ok (mk := fun d => d) (scA_in f1) (h k hk) ?_ (scA_in (fits_cut f1))
  unfold upd toMv scA
  simp
theorem let_ne {c : UInt8} (h : letterB (c.toNat : Int) = true) : ((c.toNat : Int) == 45) = false ∧ ((c.toNat : Int) == 126) = false ∧ digitB (c.toNat : Int) = false ∧ ((c.toNat : Int) == 36) = false ∧ ((c.toNat : Int) == 37) = false ∧ ((c.toNat : Int) == 39) = false ∧ ((c.toNat : Int) == 64) = false ∧ ((c.toNat : Int) == 40) = false := by
  simp only [letterB, Bool.or_eq_true, Bool.and_eq_true, decide_eq_true_eq, beq_iff_eq] at h
  refine ⟨by simp; omega, by simp; omega, ?_, by simp; omega, by simp; omega, by simp; omega, by simp; omega, by simp; omega⟩
  unfold digitB
  rw [Bool.and_eq_false_iff]
  simp only [decide_eq_false_iff_not]
  omega
theorem AT.nam {K : Nat} {pre sp w rest : List UInt8} {c : UInt8} {o : Int} {d : Dv} (hs : Sp sp) (hc : letterB (c.toNat : Int) = true) (hf : Fits pre (sp ++ (c :: (w ++ rest))) o) (h : NT K (scA (pre ++ sp) (c :: (w ++ rest)) o) (scA (pre ++ sp ++ (c :: w)) rest o) d) :
    AT (K + 1) (scA pre (sp ++ (c :: (w ++ rest))) o) (scA (pre ++ sp ++ (c :: w)) rest o) d := AT.of fun k hk => by
  obtain ⟨g1, g2, g3, g4, g5, g6, g7, g8⟩ := let_ne hc
  have hw : NoBl (c :: (w ++ rest)) := by
    show (bif isBl c then _ else 0) = 0
    have : isBl c = false := by
      simp only [letterB, Bool.or_eq_true, Bool.and_eq_true, decide_eq_true_eq, beq_iff_eq] at hc
      unfold isBl
      rw [Bool.or_eq_false_iff]
      refine ⟨?_, ?_⟩ <;> simp <;> omega
    rw [this]; rfl
  refine (atomR_sc (w := w ++ rest) hs hw hf).trans ?_
  rw [g1, g2, g3, g4, g5, g6, g7, g8]
  simp only [Bool.or_self, cond_false]
  have f1 : Fits (pre ++ sp) ((c :: w) ++ rest) o := fits_cut hf
  refine onT_ok (mk := fun d => d) (scA_in f1) (h k hk) ?_ (scA_in (fits_cut f1))
  unfold upd toMv scA
  simp
/-! ### words -/
theorem word_sc {pre w rest : List UInt8} {c : UInt8} {o : Int} (hc : letterB (c.toNat : Int) = true) (hd : spanN isWd ((c :: w) ++ rest) = (c :: w).length) (hl : (c :: w).length ≤ 16) :
    wordP (scA pre ((c :: w) ++ rest) o) = false ∧ wordV (scA pre ((c :: w) ++ rest) o) = c :: w ∧ wd (scA pre ((c :: w) ++ rest) o) = scA (pre ++ (c :: w)) rest o := by
  have hfst : firstL (scA pre ((c :: w) ++ rest) o) = true := by
    have h0 : ((scA pre ((c :: w) ++ rest) o).i == ((scA pre ((c :: w) ++ rest) o).s.length : Int)) = false := by rw [scA_len]; show (((pre.length : Nat) : Int) == _) = false; simp; omega
    have p := scA_peek pre ((c :: w) ++ rest) o
    unfold peekM at p
    rw [h0] at p
    simp only [cond_false] at p
    unfold firstL
    rw [h0, p]
    show (true && letterB (c.toNat : Int)) = true
    rw [hc]; rfl
  have hn : wordN (scA pre ((c :: w) ++ rest) o) = (c :: w).length := by
    unfold wordN nWd
    rw [hfst, scA_drop, hd]; rfl
  have hp : wordP (scA pre ((c :: w) ++ rest) o) = false := by
    unfold wordP
    rw [hn]
    exact decide_eq_false (by omega)
  refine ⟨hp, ?_, ?_⟩
  · unfold wordV
    rw [hp, hn]
    show subS (pre ++ ((c :: w) ++ rest)) (pre.length : Int) (pre.length + (c :: w).length) = c :: w
    unfold subS
    rw [show ((pre.length : Int) + ((c :: w).length : Int)).toNat = (pre ++ (c :: w)).length by rw [List.length_append]; omega, ← List.append_assoc, List.take_left' rfl]
    simp
  · unfold wd wordI
    rw [hp, hn]
    exact scA_mv pre (c :: w) rest o
theorem NT.nm {K : Nat} {pre w rest : List UInt8} {c : UInt8} {o : Int} (hc : letterB (c.toNat : Int) = true) (hd : spanN isWd ((c :: w) ++ rest) = (c :: w).length) (hl : (c :: w).length ≤ 16) (h1 : bytesEq (c :: w) [104, 105, 103, 104] = false) (h2 : bytesEq (c :: w) [108, 111, 119] = false) (h3 : anyOf (c :: w) resTab = false) (hf : Fits pre ((c :: w) ++ rest) o) :
    NT (K + 1) (scA pre ((c :: w) ++ rest) o) (scA (pre ++ (c :: w)) rest o) (nameN (pre.length : Int) (c :: w)) := NT.of fun k hk => by
  obtain ⟨a1, a2, a3⟩ := word_sc (pre := pre) (o := o) hc hd hl
  unfold namedR
  show (wordT _ _ _) = _
  unfold wordT
  rw [a1, a2, a3, scA_in hf, h1, h2, h3, okS (l := c :: w) (by omega)]
  exact exAns_ok (scA_in (fits_cut hf))
theorem NT.fn {K : Nat} {pre w v rest : List UInt8} {c : UInt8} {o : Int} {d : Dv} (hc : letterB (c.toNat : Int) = true) (hd : spanN isWd ((c :: w) ++ (v ++ rest)) = (c :: w).length) (hl : (c :: w).length ≤ 16) (h1 : (bytesEq (c :: w) [104, 105, 103, 104] || bytesEq (c :: w) [108, 111, 119]) = true) (hf : Fits pre ((c :: w) ++ (v ++ rest)) o) (hi : IT K (scA (pre ++ (c :: w)) (v ++ rest) o) (scA (pre ++ (c :: w) ++ v) rest o) d) :
    NT (K + 1) (scA pre ((c :: w) ++ (v ++ rest)) o) (scA (pre ++ (c :: w) ++ v) rest o) (unN (c :: w) (pre.length : Int) d) := NT.of fun k hk => by
  obtain ⟨a1, a2, a3⟩ := word_sc (pre := pre) (o := o) hc hd hl
  unfold namedR
  show (wordT _ _ _) = _
  unfold wordT
  rw [a1, a2, a3, scA_in hf]
  have f1 := fits_cut hf
  have hon : onT (scA pre ((c :: w) ++ (v ++ rest)) o) (scA (pre ++ (c :: w)) (v ++ rest) o) (lv k).pi (lv k).i (unN (c :: w) (pre.length : Int)) = some (false, unN (c :: w) (pre.length : Int) d, scA (pre ++ (c :: w) ++ v) rest o) := by
    refine onT_ok (scA_in f1) (hi k hk) ?_ (scA_in (fits_cut f1))
    unfold upd toMv scA
    simp
  have hi0 : (scA pre ((c :: w) ++ (v ++ rest)) o).i = (pre.length : Int) := rfl
  rw [hi0, hon]
  cases g1 : bytesEq (c :: w) [104, 105, 103, 104] with
  | true => rfl
  | false =>
    rw [g1, Bool.false_or] at h1
    rw [h1]; rfl
end Go.Proofs.YtlmacdfbdhpljaaGreatDoor

namespace Go.Proofs.YtlmacdfbdhpljaaGreatDoor
open Go.Ev Go.Ev.Tr Go.Proofs
set_option maxRecDepth 1000000
structure Mvd (x y : Sc) : Prop where
  u : upd x (toMv y) = y
  i : inSc y = true
theorem mvd_sc {pre u w : List UInt8} {o o' : Int} (h : Fits (pre ++ u) w o') : Mvd (scA pre (u ++ w) o) (scA (pre ++ u) w o') := ⟨upd_sc, scA_in h⟩
theorem EX.atom {K : Nat} {x y : Sc} {d : Dv} (h : AT K x y d) (hm : Mvd x y) : EX (K + 1) 6 x y d := EX.of fun k hk => by
  obtain ⟨h1, h2⟩ := h k hk
  unfold exprM inR
  rw [h1, h2]
  simp only [beq_self_eq_true, cond_true, cond_false]
  rw [hm.u, hm.i]; rfl
/-- No operator of the rank comes. -/
def NoOp (y : Sc) (n : Int) : Prop := opSel y n = none
theorem noOp_at {y : Sc} {n : Int} (h : NoOp y n) : opP y n = false ∧ (opV y n).1 = [] ∧ opI y n = y.i := by
  unfold opP opV opI
  rw [show opSel y n = none from h]
  exact ⟨rfl, rfl, rfl⟩
theorem exL_end {pe : Sc → Int → Bool} {e : ExM} {m : Nat} {y : Sc} {n : Int} {d : Dv} (h : NoOp y n) : exL pe e (m + 1) y n d = some (false, d, toMv y) := by
  obtain ⟨h1, h2, h3⟩ := noOp_at h
  unfold exL
  rw [h1, h2, h3]; rfl
theorem exL_go {pe : Sc → Int → Bool} {e : ExM} {m : Nat} {y z y' : Sc} {n pl : Int} {op : List UInt8} {d d' : Dv} (h1 : opP y n = false) (h2 : opV y n = (op, pl)) (h3 : bytesEq op [] = false) (h4 : opX y n = z) (h5 : pe z (n + 1) = true ∧ e z (n + 1) = (false, d', toMv y')) (hm : Mvd y y') : exL pe e (m + 1) y n d = exL pe e m y' n (mkN op pl 0 [] (.sl 1 [d, d'])) := by
  conv => lhs; unfold exL
  rw [h1, h2, h3, h4, h5.1, h5.2]
  simp only [cond_false, hm.u, hm.i, Bool.and_self, cond_true]
  rw [show opN y n d d' = mkN op pl 0 [] (.sl 1 [d, d']) by unfold opN; rw [h2]]
theorem exprM_lt {pe : Sc → Int → Bool} {e : ExM} {pa : Sc → Bool} {a : AtM} {x y y' : Sc} {n : Int} {d d' : Dv} (hn : okX n = true) (h : pe x (n + 1) = true ∧ e x (n + 1) = (false, d, toMv y)) (hm : Mvd x y) (hl : exL pe e (x.s.length + 2) y n d = some (false, d', toMv y')) (hm' : Mvd x y') : exprM pe e pa a x n = some (false, d', toMv y') := by
  have hq : exQ e x n = (x.s.length + 2, y, n, .nilp, d) := by
    unfold exQ
    rw [h.2, hm.u]
  have hR : exR pe e (exQ e x n) = (false, d', toMv y') := by
    rw [hq]
    show (exL pe e (x.s.length + 2) y n d).getD exD = _
    rw [hl]; rfl
  have hok : exOk pe e (exQ e x n) = true := by
    rw [hq]
    show (inSc y && (okX n && (exL pe e (x.s.length + 2) y n d).isSome)) = true
    rw [hm.i, hn, hl]; rfl
  have h6 : (n == 6) = false := by
    simp only [okX, Bool.and_eq_true, decide_eq_true_eq, and_true] at hn
    simp; omega
  unfold exprM inR
  rw [h6, hok, hR, h.1, h.2]
  simp only [cond_true, cond_false]
  rw [hm.u, hm.i, hm'.u, hm'.i]; rfl
theorem EX.up {K : Nat} {n : Int} {x y : Sc} {d : Dv} (hn : okX n = true) (h : EX K (n + 1) x y d) (hm : Mvd x y) (ho : NoOp y n) : EX (K + 1) n x y d := EX.of fun k hk =>
  exprM_lt hn (h k hk) hm (exL_end ho) hm
theorem EX.bin {K : Nat} {n pl : Int} {x y z y' : Sc} {op : List UInt8} {d d' : Dv} (hn : okX n = true) (h : EX K (n + 1) x y d) (hm : Mvd x y) (h1 : opP y n = false) (h2 : opV y n = (op, pl)) (h3 : bytesEq op [] = false) (h4 : opX y n = z) (h5 : EX K (n + 1) z y' d') (hz : Mvd y y') (hx : Mvd x y') (ho : NoOp y' n) : EX (K + 1) n x y' (mkN op pl 0 [] (.sl 1 [d, d'])) := EX.of fun k hk =>
  exprM_lt hn (h k hk) hm ((exL_go (m := x.s.length + 1) h1 h2 h3 h4 (h5 k hk) hz).trans (exL_end ho)) hx
theorem EX.mono {K K' : Nat} {n : Int} {x y : Sc} {d : Dv} (h : EX K n x y d) (hk : K ≤ K') : EX K' n x y d := fun k h' => h k (by omega)
theorem AT.mono {K K' : Nat} {x y : Sc} {d : Dv} (h : AT K x y d) (hk : K ≤ K') : AT K' x y d := fun k h' => h k (by omega)
/-! ### operators -/
theorem opAt_sc {pre sp w : List UInt8} {o : Int} (hs : Sp sp) (hw : NoBl w) : opAt (scA pre (sp ++ w) o) = scA (pre ++ sp) w o := scA_bl hs hw
theorem opSel_sc {pre sp w : List UInt8} {o n : Int} (hs : Sp sp) (hw : NoBl w) : opSel (scA pre (sp ++ w) o) n = opC (hdB w) n 0 rankTab := by
  unfold opSel
  rw [opAt_sc hs hw, scA_peek]
theorem needE_one {pre w : List UInt8} {b : UInt8} {o : Int} {r : List Int} : needE (scA pre (b :: w) o) ((b.toNat : Int) :: r) = needE (scA (pre ++ [b]) w o) r := by
  have p := scA_peek pre (b :: w) o
  unfold peekM at p
  have h0 : ((scA pre (b :: w) o).i == ((scA pre (b :: w) o).s.length : Int)) = false := by rw [scA_len]; show (((pre.length : Nat) : Int) == _) = false; simp; omega
  rw [h0] at p
  simp only [cond_false] at p
  conv => lhs; unfold needE
  rw [h0, p]
  show (bif !((b.toNat : Int) == (b.toNat : Int)) then _ else _) = _
  rw [beq_self_eq_true]
  simp only [Bool.not_true, cond_false]
  rw [show mv (scA pre (b :: w) o) ((scA pre (b :: w) o).i + 1) = scA (pre ++ [b]) w o from scA_mv pre [b] w o]
structure OpIs (y : Sc) (n : Int) (op : List UInt8) (pl : Int) (z : Sc) : Prop where
  p : opP y n = false
  v : opV y n = (op, pl)
  x : opX y n = z
theorem op_sc {pre sp op w : List UInt8} {o n : Int} {cs : List Int} (hs : Sp sp) (hw : NoBl (op ++ w)) (ho : opC (hdB (op ++ w)) n 0 rankTab = some (cs, op)) (hn : needE (scA (pre ++ sp) (op ++ w) o) cs = (true, ((pre ++ sp).length : Int) + op.length)) :
    OpIs (scA pre (sp ++ (op ++ w)) o) n op (pre.length + sp.length : Nat) (scA (pre ++ sp ++ op) w o) := by
  have hsel : opSel (scA pre (sp ++ (op ++ w)) o) n = some (cs, op) := (opSel_sc hs hw).trans ho
  have h0 : opAt (scA pre (sp ++ (op ++ w)) o) = scA (pre ++ sp) (op ++ w) o := opAt_sc hs hw
  have h1 : opAt (scA (pre ++ sp) (op ++ w) o) = scA (pre ++ sp) (op ++ w) o := by
    have := opAt_sc (pre := pre ++ sp) (sp := []) (o := o) (.inl rfl) hw
    rw [List.nil_append, List.append_nil] at this
    exact this
  have he : opEnd (scA pre (sp ++ (op ++ w)) o) (some (cs, op)) = (true, ((pre ++ sp).length : Int) + op.length) := by
    unfold opEnd
    simp only
    rw [h0, h1, hn]
  refine ⟨?_, ?_, ?_⟩
  · unfold opP
    rw [hsel, he]; rfl
  · unfold opV
    rw [hsel, he]
    unfold opAns
    simp only [cond_true]
    rw [scA_after hs hw]
  · unfold opX opI
    rw [hsel, he]
    unfold mv scA
    simp; omega
theorem op_sc1 {pre sp w : List UInt8} {b : UInt8} {o n : Int} (hs : Sp sp) (hb : isBl b = false) (ho : opC (b.toNat : Int) n 0 rankTab = some ([(b.toNat : Int)], [b])) : OpIs (scA pre (sp ++ (b :: w)) o) n [b] (pre.length + sp.length : Nat) (scA (pre ++ sp ++ [b]) w o) :=
  op_sc (op := [b]) (w := w) hs (show (bif isBl b then _ else 0) = 0 by rw [hb]; rfl) ho (by
    rw [show [b] ++ w = b :: w from rfl, needE_one]
    unfold needE scA
    simp; omega)
theorem op_sc2 {pre sp w : List UInt8} {b : UInt8} {o n : Int} (hs : Sp sp) (hb : isBl b = false) (ho : opC (b.toNat : Int) n 0 rankTab = some ([(b.toNat : Int), (b.toNat : Int)], [b, b])) : OpIs (scA pre (sp ++ (b :: b :: w)) o) n [b, b] (pre.length + sp.length : Nat) (scA (pre ++ sp ++ [b, b]) w o) :=
  op_sc (op := [b, b]) (w := w) hs (show (bif isBl b then _ else 0) = 0 by rw [hb]; rfl) ho (by
    rw [show [b, b] ++ w = b :: b :: w from rfl, needE_one, needE_one]
    unfold needE scA
    simp; omega)
end Go.Proofs.YtlmacdfbdhpljaaGreatDoor

namespace Go.Proofs.YtlmacdfbdhpljaaGreatDoor
open Go.Ev Go.Ev.Tr Go.Proofs
set_option maxRecDepth 1000000
theorem EX.ups {K : Nat} {x y : Sc} {d : Dv} (hm : Mvd x y) : ∀ (j : Nat) (n : Int), 0 ≤ n → n + j ≤ 6 → EX K (n + j) x y d → (∀ i : Int, n ≤ i → i < n + j → NoOp y i) → EX (K + j) n x y d
  | 0, n, _, _, h, _ => by simpa using h
  | j + 1, n, h0, h6, h, ho => by
    have g := EX.ups hm j (n + 1) (by omega) (by omega) (by rw [show n + 1 + (j : Int) = n + ((j + 1 : Nat) : Int) by omega]; exact h) fun i h1 h2 => ho i (by omega) (by omega)
    exact EX.up (by simp [okX]; omega) g hm (ho n (by omega) (by omega))
/-- An operator, behind a blank or none. -/
structure OpOk (sp op : List UInt8) (r : Int) : Prop where
  is : ∀ pre w o, OpIs (scA pre (sp ++ (op ++ w)) o) r op (pre.length + sp.length : Nat) (scA (pre ++ sp ++ op) w o)
  no : ∀ pre w o i, 0 ≤ i → i ≤ 5 → i ≠ r → NoOp (scA pre (sp ++ (op ++ w)) o) i
  ne : bytesEq op [] = false
  r0 : 0 ≤ r
  r5 : r ≤ 5
theorem six {i : Int} (h0 : 0 ≤ i) (h5 : i ≤ 5) : i = 0 ∨ i = 1 ∨ i = 2 ∨ i = 3 ∨ i = 4 ∨ i = 5 := by omega
theorem opOk1 {sp : List UInt8} {b : UInt8} {r : Int} (hs : Sp sp) (hb : isBl b = false) (ho : opC (b.toNat : Int) r 0 rankTab = some ([(b.toNat : Int)], [b])) (hn : ∀ i, 0 ≤ i → i ≤ 5 → i ≠ r → opC (b.toNat : Int) i 0 rankTab = none) (h0 : 0 ≤ r) (h5 : r ≤ 5) : OpOk sp [b] r where
  is pre w o := op_sc1 hs hb ho
  no pre w o i g0 g5 g := (opSel_sc (w := b :: w) hs (show (bif isBl b then spanN isBl w + 1 else 0) = 0 by rw [hb]; rfl)).trans (hn i g0 g5 g)
  ne := rfl
  r0 := h0
  r5 := h5
theorem opOk2 {sp : List UInt8} {b : UInt8} {r : Int} (hs : Sp sp) (hb : isBl b = false) (ho : opC (b.toNat : Int) r 0 rankTab = some ([(b.toNat : Int), (b.toNat : Int)], [b, b])) (hn : ∀ i, 0 ≤ i → i ≤ 5 → i ≠ r → opC (b.toNat : Int) i 0 rankTab = none) (h0 : 0 ≤ r) (h5 : r ≤ 5) : OpOk sp [b, b] r where
  is pre w o := op_sc2 hs hb ho
  no pre w o i g0 g5 g := (opSel_sc (w := b :: b :: w) hs (show (bif isBl b then spanN isBl (b :: w) + 1 else 0) = 0 by rw [hb]; rfl)).trans (hn i g0 g5 g)
  ne := rfl
  r0 := h0
  r5 := h5
/-- No operator comes at all. -/
def NoOps (w : List UInt8) : Prop := NoBl w ∧ ∀ i, 0 ≤ i → i ≤ 5 → opC (hdB w) i 0 rankTab = none
theorem noOps_at {pre w : List UInt8} {o i : Int} (h : NoOps w) (h0 : 0 ≤ i) (h5 : i ≤ 5) : NoOp (scA pre w o) i := by
  have := opSel_sc (pre := pre) (sp := []) (o := o) (n := i) (.inl rfl) h.1
  rw [List.nil_append] at this
  exact this.trans (h.2 i h0 h5)
theorem noOps_nil : NoOps [] := ⟨rfl, fun i h0 h5 => by rcases six h0 h5 with rfl | rfl | rfl | rfl | rfl | rfl <;> rfl⟩
theorem noOps_close (w : List UInt8) : NoOps (41 :: w) := ⟨rfl, fun i h0 h5 => by rcases six h0 h5 with rfl | rfl | rfl | rfl | rfl | rfl <;> rfl⟩
/-- What stands between two, of the rank. -/
theorem bin_sc {K : Nat} {pre w1 sp op w3 rest : List UInt8} {r o : Int} {d d' : Dv} (ok : OpOk sp op r) (hf : Fits pre (w1 ++ (sp ++ (op ++ (w3 ++ rest)))) o)
    (h1 : EX K (r + 1) (scA pre (w1 ++ (sp ++ (op ++ (w3 ++ rest)))) o) (scA (pre ++ w1) (sp ++ (op ++ (w3 ++ rest))) o) d)
    (h2 : EX K (r + 1) (scA (pre ++ w1 ++ sp ++ op) (w3 ++ rest) o) (scA (pre ++ w1 ++ sp ++ op ++ w3) rest o) d') (hno : NoOp (scA (pre ++ w1 ++ sp ++ op ++ w3) rest o) r) :
    EX (K + 1) r (scA pre (w1 ++ (sp ++ (op ++ (w3 ++ rest)))) o) (scA (pre ++ w1 ++ sp ++ op ++ w3) rest o) (mkN op ((pre ++ w1).length + sp.length : Nat) 0 [] (.sl 1 [d, d'])) := by
  have f1 := fits_cut hf
  have f4 := fits_cut (fits_cut (fits_cut f1))
  obtain ⟨p, v, q⟩ := ok.is (pre ++ w1) (w3 ++ rest) o
  refine EX.bin (by have := ok.r0; have := ok.r5; simp [okX]; omega) h1 (mvd_sc f1) p v ok.ne q h2 ⟨?_, scA_in f4⟩ ⟨?_, scA_in f4⟩ hno
  · unfold upd toMv scA
    simp
  · unfold upd toMv scA
    simp
/-- What stands between operators, read as an expression of a rank. -/
theorem EX.of_at {K : Nat} {pre w rest : List UInt8} {o r : Int} {d : Dv} (hf : Fits pre (w ++ rest) o) (h : AT K (scA pre (w ++ rest) o) (scA (pre ++ w) rest o) d) (h0 : 0 ≤ r) (h6 : r ≤ 6) (ho : ∀ i, r ≤ i → i ≤ 5 → NoOp (scA (pre ++ w) rest o) i) : EX (K + 7) r (scA pre (w ++ rest) o) (scA (pre ++ w) rest o) d := by
  have hm : Mvd (scA pre (w ++ rest) o) (scA (pre ++ w) rest o) := mvd_sc (fits_cut hf)
  have g := EX.ups hm (6 - r).toNat r h0 (by omega) (by rw [show r + ((6 - r).toNat : Int) = 6 by omega]; exact EX.atom h hm) fun i h1 h2 => ho i h1 (by omega)
  exact g.mono (by omega)
/-- Down to the loosest rank. -/
theorem EX.down {K : Nat} {pre w rest : List UInt8} {o r : Int} {d : Dv} (hf : Fits pre (w ++ rest) o) (h : EX K r (scA pre (w ++ rest) o) (scA (pre ++ w) rest o) d) (h0 : 0 ≤ r) (h5 : r ≤ 5) (ho : NoOps rest) : EX (K + 6) 0 (scA pre (w ++ rest) o) (scA (pre ++ w) rest o) d := by
  have hm : Mvd (scA pre (w ++ rest) o) (scA (pre ++ w) rest o) := mvd_sc (fits_cut hf)
  have g := EX.ups hm r.toNat 0 (Int.le_refl _) (by omega) (by rw [show (0 : Int) + (r.toNat : Int) = r by omega]; exact h) fun i h1 h2 => noOps_at ho h1 (by omega)
  exact g.mono (by omega)
/-! ### the pieces -/
/-- A number below 1000, or a name. -/
inductive Tm where
  | num (n : Nat)
  | nm (i : Nat)
def dB (m : Nat) : UInt8 := UInt8.ofNat (48 + m)
/-- Three digits at most. -/
def decB (n : Nat) : List UInt8 := if n < 10 then [dB n] else if n < 100 then [dB (n / 10), dB (n % 10)] else [dB (n / 10 / 10), dB (n / 10 % 10), dB (n % 10)]
def tmB : Tm → List UInt8
  | .num n => decB n
  | .nm i => [120, UInt8.ofNat (48 + i)]
def Tm.ok : Tm → Prop
  | .num n => n < 1000
  | .nm i => i < 6
def IsT : Tm → Dv → Prop
  | .num n, d => ∃ pl : Int, d = numN pl (n : Int)
  | .nm i, d => ∃ pl : Int, d = nmN pl i
theorem dB_dig : ∀ m, m < 10 → digitB ((dB m).toNat : Int) = true ∧ isDg 10 (dB m) = true ∧ ∀ n : Int, dgNext 10 n ((dB m).toNat : Int) = if 1099511627776 < n * 10 + (m : Int) then 1099511627776 else n * 10 + (m : Int) := by
  intro m hm
  have h : m = 0 ∨ m = 1 ∨ m = 2 ∨ m = 3 ∨ m = 4 ∨ m = 5 ∨ m = 6 ∨ m = 7 ∨ m = 8 ∨ m = 9 := by omega
  rcases h with rfl | rfl | rfl | rfl | rfl | rfl | rfl | rfl | rfl | rfl <;> exact ⟨by decide, by decide, fun n => rfl⟩
theorem dgV_one {m : Nat} (hm : m < 10) {n : Int} (h0 : n * 10 + m ≤ 1000) {w : List UInt8} : dgV 10 n (dB m :: w) = dgV 10 (n * 10 + m) w := by
  obtain ⟨_, h2, h3⟩ := dB_dig m hm
  show (bif isDg 10 (dB m) then dgV 10 (dgNext 10 n ((dB m).toNat : Int)) w else n) = _
  rw [h2, h3, if_neg (by omega)]; rfl
/-- No digit, and no word, goes on here. -/
def Stop (w : List UInt8) : Prop := NoWd w ∧ spanN (isDg 10) w = 0 ∧ spanN isWd w = 0
theorem dgV_stop {w : List UInt8} {n : Int} (h : Stop w) : dgV 10 n w = n := by
  obtain ⟨_, h2, _⟩ := h
  cases w with
  | nil => rfl
  | cons c r =>
    unfold spanN at h2
    unfold dgV
    cases hc : isDg 10 c with
    | true => rw [hc] at h2; simp at h2
    | false => rfl
theorem span_dB {m : Nat} (hm : m < 10) {w : List UInt8} : spanN (isDg 10) (dB m :: w) = spanN (isDg 10) w + 1 := by
  show (bif isDg 10 (dB m) then _ else 0) = _
  rw [(dB_dig m hm).2.1]; rfl
theorem num_at {pre sp rest : List UInt8} {o : Int} {n : Nat} (hn : n < 1000) (hs : Sp sp) (hf : Fits pre (sp ++ (decB n ++ rest)) o) (hr : Stop rest) :
    AT 1 (scA pre (sp ++ (decB n ++ rest)) o) (scA (pre ++ sp ++ decB n) rest o) (numN (pre.length + sp.length : Nat) (n : Int)) := by
  unfold decB at hf ⊢
  have hz := hr.2.1
  split
  · rename_i h
    rw [if_pos h] at hf
    refine AT.num hs (dB_dig n h).1 hf ?_ ?_ hr.1
    · show spanN (isDg 10) (dB n :: rest) = 1
      rw [span_dB h, hz]
    · show dgV 10 0 (dB n :: rest) = n
      rw [dgV_one h (by omega), dgV_stop hr]; omega
  · rename_i h
    rw [if_neg h] at hf
    split
    · rename_i h2
      rw [if_pos h2] at hf
      refine AT.num hs (dB_dig (n / 10) (by omega)).1 hf ?_ ?_ hr.1
      · show spanN (isDg 10) (dB (n / 10) :: dB (n % 10) :: rest) = 2
        rw [span_dB (by omega), span_dB (by omega), hz]
      · show dgV 10 0 (dB (n / 10) :: dB (n % 10) :: rest) = n
        rw [dgV_one (by omega) (by omega), dgV_one (by omega) (by omega), dgV_stop hr]; omega
    · rename_i h2
      rw [if_neg h2] at hf
      refine AT.num hs (dB_dig (n / 10 / 10) (by omega)).1 hf ?_ ?_ hr.1
      · show spanN (isDg 10) (dB (n / 10 / 10) :: dB (n / 10 % 10) :: dB (n % 10) :: rest) = 3
        rw [span_dB (by omega), span_dB (by omega), span_dB (by omega), hz]
      · show dgV 10 0 (dB (n / 10 / 10) :: dB (n / 10 % 10) :: dB (n % 10) :: rest) = n
        rw [dgV_one (by omega) (by omega), dgV_one (by omega) (by omega), dgV_one (by omega) (by omega), dgV_stop hr]; omega
theorem nm_word : ∀ i, i < 6 → isWd (UInt8.ofNat (48 + i)) = true ∧ bytesEq [120, UInt8.ofNat (48 + i)] [104, 105, 103, 104] = false ∧ bytesEq [120, UInt8.ofNat (48 + i)] [108, 111, 119] = false ∧ anyOf [120, UInt8.ofNat (48 + i)] resTab = false := by
  intro i hi
  have h : i = 0 ∨ i = 1 ∨ i = 2 ∨ i = 3 ∨ i = 4 ∨ i = 5 := by omega
  rcases h with rfl | rfl | rfl | rfl | rfl | rfl <;> exact ⟨by decide, by decide, by decide, by decide⟩
theorem tm_at {pre sp rest : List UInt8} {o : Int} {t : Tm} (ht : t.ok) (hs : Sp sp) (hf : Fits pre (sp ++ (tmB t ++ rest)) o) (hr : Stop rest) :
    ∃ d, IsT t d ∧ AT 2 (scA pre (sp ++ (tmB t ++ rest)) o) (scA (pre ++ sp ++ tmB t) rest o) d := by
  cases t with
  | num n => exact ⟨_, ⟨_, rfl⟩, (num_at ht hs hf hr).mono (by omega)⟩
  | nm i =>
    obtain ⟨h1, h2, h3, h4⟩ := nm_word i ht
    have hspan : spanN isWd ((120 :: [UInt8.ofNat (48 + i)]) ++ rest) = (120 :: [UInt8.ofNat (48 + i)]).length := by
      show (bif isWd 120 then (bif isWd (UInt8.ofNat (48 + i)) then spanN isWd rest + 1 else 0) + 1 else 0) = 2
      rw [h1, hr.2.2]; rfl
    refine ⟨_, ⟨_, rfl⟩, AT.nam (K := 1) hs (by decide) hf (NT.nm (K := 0) (by decide) hspan (by show 2 ≤ 16; omega) h2 h3 h4 (fits_cut hf))⟩
end Go.Proofs.YtlmacdfbdhpljaaGreatDoor

namespace Go.Proofs.YtlmacdfbdhpljaaGreatDoor
open Go.Ev Go.Ev.Tr Go.Proofs
set_option maxRecDepth 1000000
def opH : Nat → List UInt8
  | 0 => [43]
  | 1 => [45]
  | 2 => [42]
  | 3 => [47]
  | 4 => [37]
  | 5 => [38]
  | 6 => [124]
  | 7 => [94]
  | 8 => [60, 60]
  | 9 => [62, 62]
  | _ => [45]
def rk : Nat → Int
  | 0 => 4
  | 1 => 4
  | 2 => 5
  | 3 => 5
  | 4 => 5
  | 5 => 2
  | 6 => 0
  | 7 => 1
  | 8 => 3
  | 9 => 3
  | _ => 4
theorem sp1 : Sp [32] := .inr rfl
theorem sp0 : Sp [] := .inl rfl
theorem opOk_at : ∀ {sp : List UInt8}, Sp sp → ∀ k, OpOk sp (opH k) (rk k)
  | _, hs, 0 => opOk1 hs rfl rfl (fun i h0 h5 h => by rcases six h0 h5 with rfl | rfl | rfl | rfl | rfl | rfl <;> first | rfl | exact absurd rfl h) (by decide) (by decide)
  | _, hs, 1 => opOk1 hs rfl rfl (fun i h0 h5 h => by rcases six h0 h5 with rfl | rfl | rfl | rfl | rfl | rfl <;> first | rfl | exact absurd rfl h) (by decide) (by decide)
  | _, hs, 2 => opOk1 hs rfl rfl (fun i h0 h5 h => by rcases six h0 h5 with rfl | rfl | rfl | rfl | rfl | rfl <;> first | rfl | exact absurd rfl h) (by decide) (by decide)
  | _, hs, 3 => opOk1 hs rfl rfl (fun i h0 h5 h => by rcases six h0 h5 with rfl | rfl | rfl | rfl | rfl | rfl <;> first | rfl | exact absurd rfl h) (by decide) (by decide)
  | _, hs, 4 => opOk1 hs rfl rfl (fun i h0 h5 h => by rcases six h0 h5 with rfl | rfl | rfl | rfl | rfl | rfl <;> first | rfl | exact absurd rfl h) (by decide) (by decide)
  | _, hs, 5 => opOk1 hs rfl rfl (fun i h0 h5 h => by rcases six h0 h5 with rfl | rfl | rfl | rfl | rfl | rfl <;> first | rfl | exact absurd rfl h) (by decide) (by decide)
  | _, hs, 6 => opOk1 hs rfl rfl (fun i h0 h5 h => by rcases six h0 h5 with rfl | rfl | rfl | rfl | rfl | rfl <;> first | rfl | exact absurd rfl h) (by decide) (by decide)
  | _, hs, 7 => opOk1 hs rfl rfl (fun i h0 h5 h => by rcases six h0 h5 with rfl | rfl | rfl | rfl | rfl | rfl <;> first | rfl | exact absurd rfl h) (by decide) (by decide)
  | _, hs, 8 => opOk2 hs rfl rfl (fun i h0 h5 h => by rcases six h0 h5 with rfl | rfl | rfl | rfl | rfl | rfl <;> first | rfl | exact absurd rfl h) (by decide) (by decide)
  | _, hs, 9 => opOk2 hs rfl rfl (fun i h0 h5 h => by rcases six h0 h5 with rfl | rfl | rfl | rfl | rfl | rfl <;> first | rfl | exact absurd rfl h) (by decide) (by decide)
  | _, hs, _ + 10 => opOk1 hs rfl rfl (fun i h0 h5 h => by rcases six h0 h5 with rfl | rfl | rfl | rfl | rfl | rfl <;> first | rfl | exact absurd rfl h) (show (0 : Int) ≤ 4 by decide) (show (4 : Int) ≤ 5 by decide)
/-- The second operand; from 10 on with a sign of its own. -/
def tlB (k : Nat) (t : Tm) : List UInt8 := if k < 10 then [32] ++ tmB t else [32] ++ ([45] ++ ([32] ++ tmB t))
def IsS (k : Nat) (t : Tm) (d : Dv) : Prop := if k < 10 then IsT t d else ∃ (pl : Int) (x : List Dv), IsT t (.ptr x 0) ∧ d = oneN [110, 101, 103] pl x
abbrev Exp := List (Nat × Tm)
def eB : Exp → List UInt8
  | [] => [49]
  | p :: l => 40 :: ((eB l ++ ([32] ++ (opH p.1 ++ tlB p.1 p.2))) ++ [41])
def IsN : Exp → Dv → Prop
  | [], d => ∃ pl : Int, d = numN pl 1
  | p :: l, d => ∃ (pl : Int) (x y : List Dv), IsN l (.ptr x 0) ∧ IsS p.1 p.2 (.ptr y 0) ∧ d = binN (opH p.1) pl x y
theorem IsT.ptr {t : Tm} {d : Dv} (h : IsT t d) : ∃ x, d = .ptr x 0 := by
  cases t with
  | num n => obtain ⟨pl, rfl⟩ := h; exact ⟨_, rfl⟩
  | nm i => obtain ⟨pl, rfl⟩ := h; exact ⟨_, rfl⟩
theorem IsS.ptr {k : Nat} {t : Tm} {d : Dv} (h : IsS k t d) : ∃ x, d = .ptr x 0 := by
  unfold IsS at h
  split at h
  · exact h.ptr
  · obtain ⟨pl, x, _, rfl⟩ := h; exact ⟨_, rfl⟩
theorem IsN.ptr {l : Exp} {d : Dv} (h : IsN l d) : ∃ x, d = .ptr x 0 := by
  cases l with
  | nil => obtain ⟨pl, rfl⟩ := h; exact ⟨_, rfl⟩
  | cons p l => obtain ⟨pl, x, y, _, _, rfl⟩ := h; exact ⟨_, rfl⟩
theorem EX.cast {K : Nat} {n : Int} {x x' y y' : Sc} {d : Dv} (h : EX K n x y d) (hx : x = x') (hy : y = y') : EX K n x' y' d := by subst hx; subst hy; exact h
theorem AT.cast {K : Nat} {x x' y y' : Sc} {d : Dv} (h : AT K x y d) (hx : x = x') (hy : y = y') : AT K x' y' d := by subst hx; subst hy; exact h
theorem IT.cast {K : Nat} {x x' y y' : Sc} {d : Dv} (h : IT K x y d) (hx : x = x') (hy : y = y') : IT K x' y' d := by subst hx; subst hy; exact h
theorem Fits.cast {pre w w' : List UInt8} {o : Int} (h : Fits pre w o) (hw : w = w') : Fits pre w' o := by subst hw; exact h
theorem stop_close (w : List UInt8) : Stop (41 :: w) := ⟨(by decide : isWd 41 = false), rfl, rfl⟩
theorem stop_bl (w : List UInt8) : Stop (32 :: w) := ⟨(by decide : isWd 32 = false), rfl, rfl⟩
theorem stop_nil : Stop [] := ⟨trivial, rfl, rfl⟩
theorem tl_at {pre rest : List UInt8} {o : Int} {k : Nat} {t : Tm} (ht : t.ok) (hf : Fits pre (tlB k t ++ rest) o) (hr : Stop rest) : ∃ d, IsS k t d ∧ AT 3 (scA pre (tlB k t ++ rest) o) (scA (pre ++ tlB k t) rest o) d := by
  unfold tlB at hf ⊢
  unfold IsS
  split
  · rename_i h
    rw [if_pos h] at hf
    obtain ⟨d, h1, h2⟩ := tm_at ht sp1 (hf.cast (by simp)) hr
    exact ⟨d, h1, (h2.mono (by omega)).cast (by simp) (by simp)⟩
  · rename_i h
    rw [if_neg h] at hf
    have hf : Fits pre ([32] ++ (45 :: (([32] ++ tmB t) ++ rest))) o := hf.cast (by simp)
    have f2 : Fits (pre ++ [32] ++ [45]) ([32] ++ (tmB t ++ rest)) o := (fits_cut (u := [45]) (fits_cut (u := [32]) hf)).cast (by simp)
    obtain ⟨d, h1, h2⟩ := tm_at ht sp1 f2 hr
    obtain ⟨x, rfl⟩ := h1.ptr
    exact ⟨_, ⟨_, x, h1, rfl⟩, (AT.neg sp1 hf (h2.cast (by simp) (by simp))).cast (by simp) (by simp)⟩
/-- An expression in its bracket, or 1. -/
theorem exp_at : ∀ (l : Exp), (∀ p ∈ l, p.2.ok) → ∀ {pre sp rest : List UInt8} {o : Int}, Sp sp → Fits pre (sp ++ (eB l ++ rest)) o → o + l.length ≤ 20 → Stop rest →
    ∃ d, IsN l d ∧ AT (20 * l.length + 1) (scA pre (sp ++ (eB l ++ rest)) o) (scA (pre ++ sp ++ eB l) rest o) d
  | [], _, pre, sp, rest, o, hs, hf, _, hr => ⟨_, ⟨_, rfl⟩, num_at (n := 1) (by omega) hs hf hr⟩
  | p :: l, hok, pre, sp, rest, o, hs, hf, ho, hr => by
    obtain ⟨k, t⟩ := p
    have ht : t.ok := hok (k, t) List.mem_cons_self
    have hok := fun q hq => hok q (List.mem_cons_of_mem _ hq)
    have h0 := hf.o0
    have ho : o + ((l.length : Int) + 1) ≤ 20 := by
      rw [List.length_cons] at ho; omega
    have e0 : sp ++ (eB ((k, t) :: l) ++ rest) = sp ++ (40 :: (((eB l ++ ([32] ++ (opH k ++ tlB k t))) ++ [41]) ++ rest)) := rfl
    rw [e0] at hf ⊢
    have f1 : Fits (pre ++ sp) (40 :: ((eB l ++ ([32] ++ (opH k ++ tlB k t))) ++ 41 :: rest)) o := (fits_cut hf).cast (by simp)
    have f2 : Fits (pre ++ sp ++ [40]) (eB l ++ ([32] ++ (opH k ++ (tlB k t ++ 41 :: rest)))) (o + 1) := by
      have g : Fits (pre ++ sp ++ [40]) (eB l ++ ([32] ++ (opH k ++ (tlB k t ++ 41 :: rest)))) o := (fits_cut (u := [40]) f1).cast (by simp)
      exact ⟨g.len, by omega, by omega⟩
    have ok := opOk_at sp1 k
    obtain ⟨d, hd, ha⟩ := exp_at l hok (pre := pre ++ sp ++ [40]) (sp := []) (rest := [32] ++ (opH k ++ (tlB k t ++ 41 :: rest))) (o := o + 1) sp0 f2 (by omega) (stop_bl _)
    have f5 : Fits (pre ++ sp ++ [40] ++ eB l ++ [32] ++ opH k) (tlB k t ++ 41 :: rest) (o + 1) := fits_cut (fits_cut (fits_cut f2))
    obtain ⟨d', hd', ha'⟩ := tl_at (k := k) ht f5 (stop_close rest)
    have r0 := ok.r0
    have r5 := ok.r5
    have x1 := EX.of_at (r := rk k + 1) f2 (ha.cast rfl (by simp)) (by omega) (by omega) fun i h1 h2 => ok.no _ _ _ i (by omega) h2 (by omega)
    have x2 := EX.of_at (r := rk k + 1) f5 ha' (by omega) (by omega) fun i h1 h2 => noOps_at (noOps_close rest) (by omega) h2
    have x3 := bin_sc ok f2 (x1.mono (K' := 20 * l.length + 10) (by omega)) (x2.mono (by omega)) (noOps_at (noOps_close rest) ok.r0 ok.r5)
    have f6 : Fits (pre ++ sp ++ [40]) ((eB l ++ ([32] ++ (opH k ++ tlB k t))) ++ 41 :: rest) (o + 1) := f2.cast (by simp)
    have x4 := EX.down f6 (x3.cast (by simp) (by simp)) ok.r0 ok.r5 (noOps_close rest)
    have x5 := IT.par f1 (by omega) x4
    have x6 := AT.par hs hf (x5.cast (by simp) rfl)
    obtain ⟨x, rfl⟩ := hd.ptr
    obtain ⟨y, rfl⟩ := hd'.ptr
    exact ⟨_, ⟨_, x, y, hd, hd', rfl⟩, (x6.mono (by simp; omega))⟩
end Go.Proofs.YtlmacdfbdhpljaaGreatDoor

namespace Go.Proofs.YtlmacdfbdhpljaaGreatDoor
open Go.Ev Go.Ev.Tr Go.Proofs
set_option maxRecDepth 1000000
def stepV : Nat → Int → Int → Int
  | 0, v, n => v + n
  | 1, v, n => v - n
  | 2, v, n => v * n
  | 3, v, n => v.tdiv n
  | 4, v, n => v.tmod n
  | 5, v, n => (iand .i64 (i32I v) (i32I n)).n
  | 6, v, n => (ior .i64 (i32I v) (i32I n)).n
  | 7, v, n => (ixor .i64 (i32I v) (i32I n)).n
  | 8, v, n => v * p2 n.toNat
  | 9, v, n => v / p2 n.toNat
  | _, v, n => v + n
def StepOk (k : Nat) (v n : Int) : Prop := fits32 (stepV k v n) = true ∧ 0 ≤ n ∧ n < 1000 ∧ (k = 3 ∨ k = 4 → n ≠ 0) ∧ (k = 8 ∨ k = 9 → n ≤ 7)
theorem wrap_i64 {n : Int} (h0 : -9223372036854775808 ≤ n) (h1 : n ≤ 9223372036854775807) : IntKind.i64.wrap n = n := wrap_id (k := .i64) h0 h1
theorem i64_of32 {n : Int} (h : fits32 n = true) : IntKind.i64.wrap n = n := by
  have h := fits_iff.1 h
  exact wrap_i64 (by omega) (by omega)
theorem ieq_false {a b : Int} (h : a ≠ b) : ieq a b = false := by
  cases he : ieq a b with
  | false => rfl
  | true => exact absurd (ieq_iff.1 he) h
/-- One step of two operands. -/
theorem step_ev {m : EvM} {c : Dv} {h v n pl : Int} {xs ys : List Dv} : ∀ {k : Nat}, StepOk k v n → m c (.ptr xs 0) h = some v → m c (.ptr ys 0) h = some (if k < 10 then n else 0 - n) → upE m c (binN (opH k) pl xs ys) h = some (stepV k v n)
  | 0, ⟨hf, _⟩, h1, h2 => upE_of ((ev_add m c h pl xs ys).trans (by rw [twoT_of h1 h2, mA_of h1, mA_of h2]; exact fitT_of hf)) hf
  | 1, ⟨hf, _⟩, h1, h2 => upE_of ((ev_sub m c h pl xs ys).trans (by rw [twoT_of h1 h2, mA_of h1, mA_of h2]; exact fitT_of hf)) hf
  | 2, ⟨hf, _⟩, h1, h2 => upE_of ((ev_mul m c h pl xs ys).trans (by rw [twoT_of h1 h2, mA_of h1, mA_of h2]; exact fitT_of hf)) hf
  | 3, ⟨hf, _, _, hz, _⟩, h1, h2 => upE_of ((ev_div m c h pl xs ys).trans (by
      have hz := hz (.inl rfl)
      rw [twoT_of h1 h2, mA_of h1, mA_of h2]
      show (bif n == 0 then none else bif ieq n 0 then none else fitT (IntKind.i64.wrap (v.tdiv n))) = _
      rw [show (n == 0) = false by simpa using hz, ieq_false hz, i64_of32 (n := v.tdiv n) hf]
      exact fitT_of hf)) hf
  | 4, ⟨hf, _, _, hz, _⟩, h1, h2 => upE_of ((ev_rem m c h pl xs ys).trans (by
      have hz := hz (.inr rfl)
      rw [twoT_of h1 h2, mA_of h1, mA_of h2]
      show (bif n == 0 then none else bif ieq n 0 then none else some (some (v.tmod n))) = _
      rw [show (n == 0) = false by simpa using hz, ieq_false hz]; rfl)) hf
  | 5, ⟨hf, _⟩, h1, h2 => upE_of ((ev_and m c h pl xs ys).trans (by rw [twoT_of h1 h2, mA_of h1, mA_of h2]; exact fitT_of hf)) hf
  | 6, ⟨hf, _⟩, h1, h2 => upE_of ((ev_or m c h pl xs ys).trans (by rw [twoT_of h1 h2, mA_of h1, mA_of h2]; exact fitT_of hf)) hf
  | 7, ⟨hf, _⟩, h1, h2 => upE_of ((ev_xor m c h pl xs ys).trans (by rw [twoT_of h1 h2, mA_of h1, mA_of h2]; exact fitT_of hf)) hf
  | 8, ⟨hf, h0, _, _, h7⟩, h1, h2 => upE_of ((ev_shl m c h pl xs ys).trans (by
      have h7 := h7 (.inl rfl)
      rw [twoT_of h1 h2, mA_of h1, mA_of h2]
      show (bif decide (n < 0) then none else bif decide (31 < n) then none else bif decide (0 ≤ n) then fitT (IntKind.i64.wrap (v * p2 (min n.toNat 64))) else none) = _
      rw [decide_eq_false (by omega), decide_eq_false (by omega), decide_eq_true h0, show min n.toNat 64 = n.toNat by omega, i64_of32 (n := v * p2 n.toNat) hf]
      exact fitT_of hf)) hf
  | 9, ⟨hf, h0, _, _, h7⟩, h1, h2 => upE_of ((ev_shr m c h pl xs ys).trans (by
      have h7 := h7 (.inr rfl)
      rw [twoT_of h1 h2, mA_of h1, mA_of h2]
      show (bif decide (0 ≤ n) && decide (n ≤ 31) then some (some (v / p2 (min n.toNat 64))) else none) = _
      rw [decide_eq_true h0, decide_eq_true (by omega), show min n.toNat 64 = n.toNat by omega]; rfl)) hf
  | k + 10, ⟨hf, _⟩, h1, h2 => upE_of ((ev_sub m c h pl xs ys).trans (by
      rw [if_neg (by omega)] at h2
      rw [twoT_of h1 h2, mA_of h1, mA_of h2, show v - (0 - n) = v + n by omega]; exact fitT_of hf)) hf
def Tm.val (vs : Nat → Int) : Tm → Int
  | .num n => n
  | .nm i => vs i
def Tm.in (m : Nat) : Tm → Prop
  | .num n => n < 1000
  | .nm i => i < m
def eV (vs : Nat → Int) : Exp → Int
  | [] => 1
  | p :: l => stepV p.1 (eV vs l) (p.2.val vs)
/-- Every step stays within bounds. -/
def EOk (vs : Nat → Int) (m : Nat) : Exp → Prop
  | [] => True
  | p :: l => EOk vs m l ∧ p.2.in m ∧ StepOk p.1 (eV vs l) (p.2.val vs)
theorem eV_fits {vs : Nat → Int} {m : Nat} : ∀ {l : Exp}, EOk vs m l → fits32 (eV vs l) = true
  | [], _ => rfl
  | _ :: _, ⟨_, _, h, _⟩ => h
theorem tm_ev {vs : Nat → Int} {m : Nat} (hm : m ≤ 6) {t : Tm} {d : Dv} (h : IsT t d) (hi : t.in m) (h0 : 0 ≤ t.val vs) (h1 : t.val vs < 1000) (k : Nat) (at_ : Int) : evM (k + 1) (nmC vs m) d at_ = some (t.val vs) := by
  have hf : fits32 (t.val vs) = true := fits_iff.2 ⟨by omega, by omega⟩
  cases t with
  | num n =>
    obtain ⟨pl, rfl⟩ := h
    exact upE_of ((ev_num _ _ at_ pl n).trans (fitT_of hf)) hf
  | nm i =>
    obtain ⟨pl, rfl⟩ := h
    exact upE_of ((ev_nm _ vs at_ pl m i hm hi).trans (fitT_of hf)) hf
theorem s_ev {vs : Nat → Int} {m : Nat} (hm : m ≤ 6) {j : Nat} {t : Tm} {d : Dv} (h : IsS j t d) (hi : t.in m) (h0 : 0 ≤ t.val vs) (h1 : t.val vs < 1000) (k : Nat) (at_ : Int) : evM (k + 2) (nmC vs m) d at_ = some (if j < 10 then t.val vs else 0 - t.val vs) := by
  unfold IsS at h
  split at h
  · rename_i hj
    rw [if_pos hj]
    exact tm_ev hm h hi h0 h1 (k + 1) at_
  · rename_i hj
    rw [if_neg hj]
    obtain ⟨pl, x, hx, rfl⟩ := h
    have g := tm_ev hm hx hi h0 h1 k at_
    refine upE_of ((ev_neg _ _ at_ pl x).trans ?_) (fits_iff.2 ⟨by omega, by omega⟩)
    rw [oneT_of g, mA_of g, decide_eq_false (by omega)]; rfl
theorem exp_ev {vs : Nat → Int} {m : Nat} (hm : m ≤ 6) (at_ : Int) : ∀ {l : Exp} {d : Dv}, IsN l d → EOk vs m l → ∀ k, evM (k + l.length + 2) (nmC vs m) d at_ = some (eV vs l)
  | [], d, ⟨pl, e⟩, _, k => by
    subst e
    exact upE_of ((ev_num _ _ at_ pl 1).trans rfl) rfl
  | p :: l, d, ⟨pl, x, y, hx, hy, e⟩, ⟨h1, h2, h3⟩, k => by
    subst e
    have g1 := exp_ev hm at_ hx h1 k
    have g2 := s_ev hm hy h2 h3.2.1 h3.2.2.1 (k + l.length) at_
    exact step_ev h3 g1 g2
end Go.Proofs.YtlmacdfbdhpljaaGreatDoor

namespace Go.Proofs.YtlmacdfbdhpljaaGreatDoor
open Go.Ev Go.Ev.Tr Go.Proofs
set_option maxRecDepth 1000000
theorem NT.cast {K : Nat} {x x' y y' : Sc} {d : Dv} (h : NT K x y d) (hx : x = x') (hy : y = y') : NT K x' y' d := by subst hx; subst hy; exact h
/-- high( .. ), as a text. -/
def hiB (l : Exp) : List UInt8 := [104, 105, 103, 104] ++ (40 :: (eB l ++ [41]))
def loB (l : Exp) : List UInt8 := [108, 111, 119] ++ (40 :: (eB l ++ [41]))
def hlB (l : Exp) : List UInt8 := hiB l ++ ([42] ++ ([50, 53, 54] ++ ([43] ++ loB l)))
def fnN (w : List UInt8) (pl : Int) (xs : List Dv) : Dv := oneN w pl xs
theorem fnc_at {l : Exp} (hok : ∀ p ∈ l, p.2.ok) {pre w rest : List UInt8} {c : UInt8} {o : Int} (hc : letterB (c.toNat : Int) = true) (hd : ∀ r, spanN isWd ((c :: w) ++ (40 :: r)) = (c :: w).length) (hw : (c :: w).length ≤ 16) (h1 : (bytesEq (c :: w) [104, 105, 103, 104] || bytesEq (c :: w) [108, 111, 119]) = true)
    (hf : Fits pre ((c :: w) ++ ((40 :: (eB l ++ [41])) ++ rest)) o) (ho : o + 1 + l.length ≤ 20) :
    ∃ x, IsN l (.ptr x 0) ∧ AT (20 * l.length + 20) (scA pre ((c :: w) ++ ((40 :: (eB l ++ [41])) ++ rest)) o) (scA (pre ++ ((c :: w) ++ (40 :: (eB l ++ [41])))) rest o) (oneN (c :: w) (pre.length : Int) x) := by
  have h0 := hf.o0
  have f1 : Fits (pre ++ (c :: w)) (40 :: (eB l ++ 41 :: rest)) o := (fits_cut hf).cast (by simp)
  have f2 : Fits (pre ++ (c :: w) ++ [40]) (eB l ++ 41 :: rest) (o + 1) := by
    have g : Fits (pre ++ (c :: w) ++ [40]) (eB l ++ 41 :: rest) o := (fits_cut (u := [40]) f1).cast (by simp)
    exact ⟨g.len, by omega, by omega⟩
  obtain ⟨d, hd', ha⟩ := exp_at l hok (pre := pre ++ (c :: w) ++ [40]) (sp := []) (rest := 41 :: rest) (o := o + 1) sp0 f2 (by omega) (stop_close _)
  obtain ⟨x, rfl⟩ := hd'.ptr
  have x1 := EX.of_at (r := 0) f2 (ha.cast rfl (by simp)) (by omega) (by omega) fun i g1 g2 => noOps_at (noOps_close rest) g1 g2
  have x2 := IT.par f1 (by omega) x1
  have x3 := NT.fn (v := 40 :: (eB l ++ [41])) hc (hd _) hw h1 hf (x2.cast (by simp) (by simp))
  have x4 := AT.nam (sp := []) (pre := pre) (rest := rest) (w := w ++ (40 :: (eB l ++ [41]))) sp0 hc (hf.cast (by simp)) (x3.cast (by simp) (by simp))
  exact ⟨x, hd', (x4.mono (by omega)).cast (by simp) (by simp)⟩
/-- The text is read as a sum of a product and another. -/
def IsHl (l : Exp) (d : Dv) : Prop := ∃ (p1 p2 p3 p4 p5 : Int) (x y : List Dv), IsN l (.ptr x 0) ∧ IsN l (.ptr y 0) ∧
  d = mkN [43] p1 0 [] (.sl 1 [mkN [42] p2 0 [] (.sl 1 [oneN [104, 105, 103, 104] p3 x, numN p4 256]), oneN [108, 111, 119] p5 y])
theorem hl_at {l : Exp} (hok : ∀ p ∈ l, p.2.ok) (hl : l.length ≤ 6) (hlen : (hlB l).length ≤ 900) : ∃ d, IsHl l d ∧ EX (20 * l.length + 50) 0 (scA [] (hlB l) 0) (scA (hlB l) [] 0) d := by
  have hf : Fits [] (hlB l) 0 := ⟨by simpa using (show (hlB l).length ≤ 1000 by omega), by decide, by decide⟩
  have f1 : Fits [] (hiB l ++ ([] ++ ([42] ++ ([50, 53, 54] ++ ([43] ++ loB l))))) 0 := hf
  obtain ⟨x, hx, a1⟩ := fnc_at hok (pre := []) (c := 104) (w := [105, 103, 104]) (rest := [42] ++ ([50, 53, 54] ++ ([43] ++ loB l))) (o := 0) rfl (fun r => rfl) (by decide) rfl (f1.cast (by simp [hiB])) (by omega)
  have x1 := EX.of_at (r := 6) (pre := []) (w := hiB l) (rest := [] ++ ([42] ++ ([50, 53, 54] ++ ([43] ++ loB l)))) f1 (a1.cast (by simp [hiB]) (by simp [hiB])) (by omega) (by omega) fun i g1 g2 => absurd g1 (by omega)
  have f2 : Fits ([] ++ hiB l ++ [] ++ [42]) ([50, 53, 54] ++ ([43] ++ loB l)) 0 := (fits_cut (fits_cut (fits_cut f1)))
  have a2 := num_at (n := 256) (sp := []) (pre := [] ++ hiB l ++ [] ++ [42]) (rest := [43] ++ loB l) (o := 0) (by omega) sp0 f2 ⟨(by decide : isWd 43 = false), rfl, rfl⟩
  have x2 := EX.of_at (r := 6) (w := [50, 53, 54]) f2 (a2.cast rfl (by simp [decB, dB])) (by omega) (by omega) fun i g1 g2 => absurd g1 (by omega)
  have x3 := bin_sc (opOk_at sp0 2) f1 (x1.mono (K' := 20 * l.length + 30) (by omega)) (x2.mono (by omega)) ((opOk_at sp0 0).no ([] ++ hiB l ++ [] ++ [42] ++ [50, 53, 54]) (loB l) 0 5 (by decide) (by decide) (by decide))
  have f3 : Fits [] ((hiB l ++ ([42] ++ [50, 53, 54])) ++ ([] ++ ([43] ++ (loB l ++ [])))) 0 := f1.cast (by simp)
  have f4 : Fits ([] ++ (hiB l ++ ([42] ++ [50, 53, 54])) ++ [] ++ [43]) (loB l ++ []) 0 := (fits_cut (fits_cut (fits_cut f3)))
  obtain ⟨y, hy, a3⟩ := fnc_at hok (pre := [] ++ (hiB l ++ ([42] ++ [50, 53, 54])) ++ [] ++ [43]) (c := 108) (w := [111, 119]) (rest := []) (o := 0) rfl (fun r => rfl) (by decide) rfl (f4.cast (by simp [loB])) (by omega)
  have x4 := EX.of_at (r := 5) (w := loB l) f4 (a3.cast (by simp [loB]) (by simp [loB])) (by omega) (by omega) fun i g1 g2 => noOps_at noOps_nil (by omega) g2
  have x5 := bin_sc (r := rk 0) (opOk_at sp0 0) f3 (x3.cast (by simp [opH]) (by simp [opH])) (x4.mono (by omega)) (noOps_at noOps_nil (by decide) (by decide))
  have f5 : Fits [] (hlB l ++ []) 0 := hf.cast (by simp)
  have x6 := EX.down (pre := []) (w := hlB l) (rest := []) f5 (x5.cast (by simp [hlB, opH]) (by simp [hlB, opH])) (by decide) (by decide) noOps_nil
  exact ⟨_, ⟨_, _, _, _, _, x, y, hx, hy, rfl⟩, (x6.mono (by omega)).cast (by simp) (by simp)⟩
theorem hl_ev {vs : Nat → Int} {m : Nat} (hm : m ≤ 6) (at_ : Int) {l : Exp} {d : Dv} (h : IsHl l d) (he : EOk vs m l) (k : Nat) : evM (k + l.length + 5) (nmC vs m) d at_ = some (eV vs l / 256 % 256 * 256 + eV vs l % 256) := by
  obtain ⟨p1, p2, p3, p4, p5, x, y, hx, hy, rfl⟩ := h
  have b := eV_fits he
  have g1 := exp_ev hm at_ hx he k
  have g2 := exp_ev hm at_ hy he (k + 1)
  have g3 : evM (k + l.length + 3) (nmC vs m) (oneN [104, 105, 103, 104] p3 x) at_ = some (eV vs l / 256 % 256) :=
    upE_of ((ev_high _ _ at_ p3 x).trans (by rw [oneT_of g1, mA_of g1])) (fits_iff.2 ⟨by omega, by omega⟩)
  have g4 : evM (k + l.length + 3) (nmC vs m) (numN p4 256) at_ = some 256 := upE_of ((ev_num _ _ at_ p4 256).trans rfl) rfl
  have g5 : evM (k + l.length + 4) (nmC vs m) (binN [42] p2 [.str [104, 105, 103, 104], .int .i64 p3, .int .i64 0, .str [], .sl 1 [.ptr x 0]] [.str [110, 117, 109, 98, 101, 114], .int .i64 p4, .int .i64 256, .str [], .nils]) at_ = some (eV vs l / 256 % 256 * 256) :=
    upE_of ((ev_mul _ _ at_ p2 _ _).trans (by rw [twoT_of g3 g4, mA_of g3, mA_of g4]; exact fitT_of (fits_iff.2 ⟨by omega, by omega⟩))) (fits_iff.2 ⟨by omega, by omega⟩)
  have g6 : evM (k + l.length + 4) (nmC vs m) (oneN [108, 111, 119] p5 y) at_ = some (eV vs l % 256) := by
    rw [show k + l.length + 4 = (k + 1 + l.length + 2) + 1 by omega]
    exact upE_of ((ev_low _ _ at_ p5 y).trans (by rw [oneT_of g2, mA_of g2])) (fits_iff.2 ⟨by omega, by omega⟩)
  exact upE_of ((ev_add (evM (k + l.length + 4)) (nmC vs m) at_ p1 [.str [42], .int .i64 p2, .int .i64 0, .str [], .sl 1 [.ptr [.str [104, 105, 103, 104], .int .i64 p3, .int .i64 0, .str [], .sl 1 [.ptr x 0]] 0, .ptr [.str [110, 117, 109, 98, 101, 114], .int .i64 p4, .int .i64 256, .str [], .nils] 0]] [.str [108, 111, 119], .int .i64 p5, .int .i64 0, .str [], .sl 1 [.ptr y 0]]).trans (by rw [twoT_of g5 g6, mA_of g5, mA_of g6]; exact fitT_of (fits_iff.2 ⟨by omega, by omega⟩))) (fits_iff.2 ⟨by omega, by omega⟩)
end Go.Proofs.YtlmacdfbdhpljaaGreatDoor
