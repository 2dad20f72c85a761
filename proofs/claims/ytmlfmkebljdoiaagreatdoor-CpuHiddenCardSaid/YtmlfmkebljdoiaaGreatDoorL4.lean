/- Own text: CpuMoves: its first loop, which appends. -/
import Derived.Test.YtmlfmkebljdoiaaGreatDoorSl
namespace Go.Proofs.YtmlfmkebljdoiaaGreatDoor
open Go.Ev Go.Ev.Tr Go.Proofs
set_option maxRecDepth 1000000
/-- The packages' variables, and a row of whole numbers of the caller's. -/
noncomputable def ro1 (sg : Nat) (ms : List Int) : RO := fun id => match Nat.beq id 2 with
  | true => some (.seg .i64 sg ms (-9223372036854775808) 9223372036854775807)
  | false => ro0 id
def mvV (sg : Nat) (l : Int) : V := .slice 2 1 ⟨(sg : Int), -1, (sg : Int)⟩ ⟨l, 0, 9223372036854775807⟩ 0 big63
noncomputable def c4 : Code := bodyOf Tryz.f4
noncomputable def B4 : Code := sR (sL (sRn 7 c4))
noncomputable def LB4 : Code := lL (bL B4)
theorem B4_eq : B4 = .block 0 (.loop (C2.code LB4).erase) := by kernel_rfl
def cs8 : List CS := [.i 0 255, .i 0 255, .i 0 255, .i 0 255, .i 0 255, .i 0 255, .i 0 255, .i 0 255]
def sp4 : LSpec := { ts := [(1, .same), (5, .ptr 6), (6, .row 7 1 8), (8, i64S), (9, i64S)], bs := [(6, .same), (7, .nc cs8)], nxt := 8, lim := 1000000 }
def ss4 : SSpec := { sp := sp4, tc := 7, k := .u8, lo := 0, hi := 255, mx := 60 }
structure R4 where
  B : Blk
  PB : Blk
  mv : V
  sh : Bool
  xs : List Int
  ln : Int
  n : Int
  i : Int
def tm4 (s : R4) : Tr V := ((((Tr.lf.set 9 (some (vi64 s.i))).set 8 (some (vi64 s.n))).set 6 (some (.slice 7 1 (I.lit 0) (I.lit 8) 8 8))).set 5 (some (.ptr 6 (I.lit 0)))).set 1 (some s.mv)
def hm4 (s : R4) : Tr Blk := (Tr.lf.set 7 (some s.PB)).set 6 (some s.B)
def cA4 (s : R4) : St := ⟨(tm4 s).set 7 (some .nils), [], ⟨hm4 s, 8, 1000000⟩⟩
def cB4 (s : R4) : St := ⟨(tm4 s).set 7 (some (slotV ss4 s.ln)), [], ⟨(hm4 s).set 8 (some (.ints .u8 s.xs 0 255)), 9, 1000000⟩⟩
def par4 (st : St) : R4 := ⟨blkAt st.hp.m 6, encB (.nc cs8) (blkAt st.hp.m 7), tmpV st.tmps 1, false, [], 0, nOf (tmpV st.tmps 8), nOf (tmpV st.tmps 9)⟩
def sh4 (s : R4) : Bool := s.sh
def cn4 (s : R4) : St := bif sh4 s then cB4 s else cA4 s
theorem hm4_keys (s : R4) (t : Nat) : (∃ u, (hm4 s).get t = some u) ↔ inKeys t sp4.bs := by
  simp only [hm4, Tr.get_set, sp4, inKeys, or_false]
  by_cases h2 : t = 6
  · simp [h2]
  · by_cases h3 : t = 7
    · simp [h3]
    · simp [h2, h3, Tr.get]
theorem cn4_canon (s : R4) : CanonS ss4 (cn4 s) := by
  unfold cn4
  cases sh4 s with
  | false => exact ⟨rfl, rfl, .inl ⟨rfl, hm4_keys s⟩⟩
  | true =>
    refine ⟨rfl, rfl, .inr ⟨rfl, fun t => ?_⟩⟩
    show (∃ u, ((hm4 s).set 8 _).get t = some u) ↔ t = 8 ∨ _
    simp only [Tr.get_set]
    by_cases e : t = 8
    · simp [e]
    · simp only [e, if_false, false_or]; exact hm4_keys s t
theorem par4_eq (st : St) (_ : okSt ss4.sp st = true) (h : tmpV st.tmps ss4.tc = .nils) : encS ss4 st = cA4 (par4 st) ∧ sh4 (par4 st) = false := by
  unfold encS
  rw [h]
  exact ⟨rfl, rfl⟩
/-! ### a round -/
def pk8 {β : Type} (v : Int) (f : Nat → Option β) : Option β :=
  bif v == ((0 : Nat) : Int) then f 0 else bif v == ((1 : Nat) : Int) then f 1 else bif v == ((2 : Nat) : Int) then f 2 else bif v == ((3 : Nat) : Int) then f 3 else
  bif v == ((4 : Nat) : Int) then f 4 else bif v == ((5 : Nat) : Int) then f 5 else bif v == ((6 : Nat) : Int) then f 6 else bif v == ((7 : Nat) : Int) then f 7 else none
def vp (n : Int) : V := .int .i64 ⟨n, 0, 255⟩
def pB (p : Nat → Int) : Blk := .cells [vp (p 0), vp (p 1), vp (p 2), vp (p 3), vp (p 4), vp (p 5), vp (p 6), vp (p 7)]
def setP (p : Nat → Int) (to fr : Nat) : Nat → Int := fun j => match Nat.beq j to with
  | true => p fr
  | false => p j
def lnOk (n : Int) : Bool := decide (0 ≤ n ∧ n ≤ 60)
def skipB (to fr : Nat) : Bool := Nat.beq to 4 || Nat.beq to 5 || (Nat.beq to 6 && Nat.beq fr 6)
def opM (to fr : Nat) : Int := 64 + 8 * (to : Int) + (fr : Int)
noncomputable def rnd4 (ms : List Int) (sg : Nat) (l : Int) (s : R4) (out : Option (X × St)) (go skip : Nat → Nat → Option (X × St)) : Option (X × St) :=
  bif decide (s.i < l) then (bif decide (s.i < 60) then
    (bif decide (0 ≤ s.i ∧ s.i < l) then (bif decide ((sg : Int) ≤ (sg : Int) + s.i ∧ (sg : Int) + s.i < (sg : Int) + (ms.length : Int)) then
      pk8 (pickV (ms.getD ((sg : Int) + s.i - (sg : Int)).toNat 0) (8 : Nat)) fun to =>
      (bif decide (0 ≤ s.i ∧ s.i < l) then (bif decide ((sg : Int) ≤ (sg : Int) + s.i ∧ (sg : Int) + s.i < (sg : Int) + (ms.length : Int)) then
        pk8 (pickV (IntKind.i64.wrap ((ms.getD ((sg : Int) + s.i - (sg : Int)).toNat 0).tdiv 8)) (8 : Nat)) fun fr => match skipB to fr with
          | true => skip to fr
          | false => go to fr
      else none) else none)
     else none) else none)
   else out) else out
noncomputable def endR (s : R4) : Option (X × St) := bif lnOk s.ln then some (X.normal, cn4 s) else none
theorem round4_A : (fun ms sg l x sp p n i => roundS env7 (ro1 sg ms) call7 184 ss4 (.code LB4) (cn4 ⟨gxB x sp, pB p, mvV sg l, false, [], 0, n, i⟩)) =
    (fun ms sg l x sp p n i => rnd4 ms sg l ⟨gxB x sp, pB p, mvV sg l, false, [], 0, n, i⟩ (some (X.exit 0, cn4 ⟨gxB x sp, pB p, mvV sg l, false, [], 0, n, i⟩))
      (fun to fr => endR ⟨gxB x sp, pB (setP p to fr), mvV sg l, true, [opM to fr], 1, IntKind.i64.wrap (n + 1), IntKind.i64.wrap (i + 1)⟩)
      (fun _ _ => some (X.normal, cn4 ⟨gxB x sp, pB p, mvV sg l, false, [], 0, n, IntKind.i64.wrap (i + 1)⟩))) := by kernel_rfl
theorem round4_B : (fun ms sg l x sp p xs ln n i => roundS env7 (ro1 sg ms) call7 184 ss4 (.code LB4) (cn4 ⟨gxB x sp, pB p, mvV sg l, true, xs, ln, n, i⟩)) =
    (fun ms sg l x sp p xs ln n i => rnd4 ms sg l ⟨gxB x sp, pB p, mvV sg l, true, xs, ln, n, i⟩ (bif lnOk ln then some (X.exit 0, cn4 ⟨gxB x sp, pB p, mvV sg l, true, xs, ln, n, i⟩) else none)
      (fun to fr => bif decide (ln = xs.length) then endR ⟨gxB x sp, pB (setP p to fr), mvV sg l, true, xs ++ [opM to fr], ln + 1, IntKind.i64.wrap (n + 1), IntKind.i64.wrap (i + 1)⟩ else none)
      (fun _ _ => endR ⟨gxB x sp, pB p, mvV sg l, true, xs, ln, n, IntKind.i64.wrap (i + 1)⟩)) := by kernel_rfl
/-! ### where it leads -/
def toM (ms : List Int) (i : Nat) : Nat := (pickV (ms.getD i 0) (8 : Nat)).toNat
def frM (ms : List Int) (i : Nat) : Nat := (pickV (IntKind.i64.wrap ((ms.getD i 0).tdiv 8)) (8 : Nat)).toNat
abbrev QM := (Nat → Int) × List Int
def stpM (ms : List Int) (q : QM) (i : Nat) : QM := match skipB (toM ms i) (frM ms i) with
  | true => q
  | false => (setP q.1 (toM ms i) (frM ms i), q.2 ++ [opM (toM ms i) (frM ms i)])
def goM (ms : List Int) : Nat → Nat → QM → QM
  | 0, _, q => q
  | k + 1, i, q => goM ms k (i + 1) (stpM ms q i)
def cntM (l : Int) : Nat := min l.toNat 60
def csB : Blk → List V
  | .cells cs => cs
  | _ => []
def pOf (b : Blk) : Nat → Int := fun j => nOf ((csB b).getD j .any)
def lenOf4 : V → Int
  | .slice _ _ _ l _ _ => l.n
  | _ => 0
def mkR (B : Blk) (mv : V) (q : QM) (i : Int) : R4 := ⟨B, pB q.1, mv, !q.2.isEmpty, q.2, q.2.length, q.2.length, i⟩
def resQ (ms : List Int) (s : R4) : QM := goM ms (cntM (lenOf4 s.mv)) 0 (pOf s.PB, [])
def nx4 (ms : List Int) (s : R4) : R4 := mkR s.B s.mv (resQ ms s) (cntM (lenOf4 s.mv))
/-- Where it may begin. -/
def P4 (sg : Nat) (ms : List Int) (s : R4) : Prop := ∃ x sp p l, s = ⟨gxB x sp, pB p, mvV sg l, false, [], 0, 0, 0⟩ ∧ 0 ≤ l ∧ l ≤ ms.length
open Classical in
noncomputable def fin4 (sg : Nat) (ms : List Int) (s : R4) : Bool := decide (P4 sg ms s)
/-- On the way. -/
def On4 (sg : Nat) (ms : List Int) (s r : R4) : Prop := ∃ x sp q l, ∃ k i : Nat, s = mkR (gxB x sp) (mvV sg l) q i ∧ q.2.length ≤ i ∧ i + k = cntM l ∧ 0 ≤ l ∧ l ≤ ms.length ∧ r = mkR (gxB x sp) (mvV sg l) (goM ms k i q) (cntM l)
theorem pOf_pB (p : Nat → Int) : pB (pOf (pB p)) = pB p := rfl
theorem setP_congr {p p' : Nat → Int} (h : ∀ j, j < 8 → p j = p' j) (to fr : Nat) (hf : fr < 8) : ∀ j, j < 8 → setP p to fr j = setP p' to fr j := fun j hj => by
  unfold setP
  split
  · exact h fr hf
  · exact h j hj
theorem pick8_lt (v : Int) : (pickV v (8 : Nat)).toNat < 8 := by
  have := pickV_in (c := v) (n := ((8 : Nat) : Int)) (by decide)
  omega
theorem frM_lt (ms : List Int) (i : Nat) : frM ms i < 8 := pick8_lt _
theorem toM_lt (ms : List Int) (i : Nat) : toM ms i < 8 := pick8_lt _
theorem pB_congr {p p' : Nat → Int} (h : ∀ j, j < 8 → p j = p' j) : pB p = pB p' := by
  unfold pB
  rw [h 0 (by omega), h 1 (by omega), h 2 (by omega), h 3 (by omega), h 4 (by omega), h 5 (by omega), h 6 (by omega), h 7 (by omega)]
theorem pk8_eq {β : Type} {v : Int} (f : Nat → Option β) : pk8 (pickV v (8 : Nat)) f = f (pickV v (8 : Nat)).toNat := by
  have := pickV_in (c := v) (n := ((8 : Nat) : Int)) (by decide)
  generalize pickV v ((8 : Nat) : Int) = w at this ⊢
  obtain ⟨k, rfl⟩ : ∃ k : Nat, w = k := ⟨w.toNat, by omega⟩
  have hk : k = 0 ∨ k = 1 ∨ k = 2 ∨ k = 3 ∨ k = 4 ∨ k = 5 ∨ k = 6 ∨ k = 7 := by omega
  rcases hk with rfl | rfl | rfl | rfl | rfl | rfl | rfl | rfl <;> rfl
theorem rnd4_go {ms : List Int} {sg : Nat} {l : Int} {s : R4} {out : Option (X × St)} {go skip : Nat → Nat → Option (X × St)} (i : Nat) (hi : s.i = i) (h1 : i < cntM l) (h3 : l ≤ ms.length) : rnd4 ms sg l s out go skip = match skipB (toM ms i) (frM ms i) with
    | true => skip (toM ms i) (frM ms i)
    | false => go (toM ms i) (frM ms i) := by
  unfold cntM at h1
  unfold rnd4
  rw [hi, decide_eq_true (show (i : Int) < l by omega), decide_eq_true (show (i : Int) < 60 by omega), decide_eq_true (show 0 ≤ (i : Int) ∧ (i : Int) < l by omega), decide_eq_true (show (sg : Int) ≤ (sg : Int) + (i : Int) ∧ (sg : Int) + (i : Int) < (sg : Int) + (ms.length : Int) by omega), show ((sg : Int) + (i : Int) - (sg : Int)).toNat = i by omega]
  simp only [cond_true]
  rw [pk8_eq, pk8_eq]
  rfl
theorem rnd4_out {ms : List Int} {sg : Nat} {l : Int} {s : R4} {out : Option (X × St)} {go skip : Nat → Nat → Option (X × St)} (h : l ≤ s.i ∨ 60 ≤ s.i) : rnd4 ms sg l s out go skip = out := by
  unfold rnd4
  cases h1 : decide (s.i < l) with
  | false => rfl
  | true =>
    have h1 := of_decide_eq_true h1
    rw [decide_eq_false (show ¬ s.i < 60 by omega)]; rfl
theorem cn4_congr {B : Blk} {mv : V} {q q' : QM} {i : Int} (h : q = q') : cn4 (mkR B mv q i) = cn4 (mkR B mv q' i) := by rw [h]
theorem step4 (sg : Nat) (ms : List Int) (s r : R4) (h : On4 sg ms s r) : (∃ s', roundS env7 (ro1 sg ms) call7 184 ss4 (.code LB4) (cn4 s) = some (.normal, cn4 s') ∧ On4 sg ms s' r ∧ (60 - s'.i).toNat < (60 - s.i).toNat) ∨ roundS env7 (ro1 sg ms) call7 184 ss4 (.code LB4) (cn4 s) = some (.exit 0, cn4 r) := by
  obtain ⟨x, sp, q, l, k, i, rfl, hq, hik, hl, hol, rfl⟩ := h
  have hc : cntM l ≤ 60 := by unfold cntM; omega
  obtain ⟨p, xs⟩ := q
  simp only at hq
  have hw : IntKind.i64.wrap ((i : Int) + 1) = ((i + 1 : Nat) : Int) := by rw [wrap_small (by omega) (by omega)]; omega
  have hwn : IntKind.i64.wrap ((xs.length : Int) + 1) = ((xs.length + 1 : Nat) : Int) := by rw [wrap_small (by omega) (by omega)]; omega
  have lnk : ∀ n : Nat, n ≤ 60 → lnOk (n : Int) = true := fun n hn => by unfold lnOk; exact decide_eq_true (by omega)
  cases k with
  | zero =>
    right
    have hi : i = cntM l := by omega
    have hout : l ≤ (i : Int) ∨ (60 : Int) ≤ i := by unfold cntM at hi; omega
    cases xs with
    | nil =>
      have hev : roundS env7 (ro1 sg ms) call7 184 ss4 (.code LB4) (cn4 (mkR (gxB x sp) (mvV sg l) (p, []) i)) = _ := congrFun (congrFun (congrFun (congrFun (congrFun (congrFun (congrFun (congrFun round4_A ms) sg) l) x) sp) p) 0) (i : Int)
      rw [hev]
      exact (rnd4_out hout).trans (by rw [← hi]; rfl)
    | cons a tl =>
      have hev : roundS env7 (ro1 sg ms) call7 184 ss4 (.code LB4) (cn4 (mkR (gxB x sp) (mvV sg l) (p, a :: tl) i)) = _ := congrFun (congrFun (congrFun (congrFun (congrFun (congrFun (congrFun (congrFun (congrFun (congrFun round4_B ms) sg) l) x) sp) p) (a :: tl)) ((a :: tl).length : Int)) ((a :: tl).length : Int)) (i : Int)
      rw [hev]
      refine (rnd4_out hout).trans ?_
      rw [lnk _ (by omega), ← hi]; rfl
  | succ k =>
    left
    have hlt : i < cntM l := by omega
    refine ⟨mkR (gxB x sp) (mvV sg l) (stpM ms (p, xs) i) ((i + 1 : Nat) : Int), ?_, ⟨x, sp, stpM ms (p, xs) i, l, k, i + 1, rfl, ?_, by omega, hl, hol, rfl⟩, ?_⟩
    · cases xs with
      | nil =>
        have hev : roundS env7 (ro1 sg ms) call7 184 ss4 (.code LB4) (cn4 (mkR (gxB x sp) (mvV sg l) (p, []) i)) = _ := congrFun (congrFun (congrFun (congrFun (congrFun (congrFun (congrFun (congrFun round4_A ms) sg) l) x) sp) p) 0) (i : Int)
        rw [hev]
        refine (rnd4_go i rfl hlt hol).trans ?_
        unfold stpM
        cases hsk : skipB (toM ms i) (frM ms i) with
        | true => simp only; rw [hw]; rfl
        | false =>
          simp only
          unfold Proofs.YtmlfmkebljdoiaaGreatDoor.endR
          rw [hw]
          have : lnOk 1 = true := lnk 1 (by omega)
          simp only [this, cond_true]; rfl
      | cons a tl =>
        have hev : roundS env7 (ro1 sg ms) call7 184 ss4 (.code LB4) (cn4 (mkR (gxB x sp) (mvV sg l) (p, a :: tl) i)) = _ := congrFun (congrFun (congrFun (congrFun (congrFun (congrFun (congrFun (congrFun (congrFun (congrFun round4_B ms) sg) l) x) sp) p) (a :: tl)) ((a :: tl).length : Int)) ((a :: tl).length : Int)) (i : Int)
        rw [hev]
        refine (rnd4_go i rfl hlt hol).trans ?_
        unfold stpM
        cases hsk : skipB (toM ms i) (frM ms i) with
        | true =>
          simp only
          unfold Proofs.YtmlfmkebljdoiaaGreatDoor.endR
          simp only [lnk (a :: tl).length (by omega), cond_true]
          rw [hw]; rfl
        | false =>
          simp only
          unfold Proofs.YtmlfmkebljdoiaaGreatDoor.endR
          have e2 : ((a :: tl).length : Int) + 1 = (((a :: tl).length + 1 : Nat) : Int) := by omega
          simp only [decide_true, cond_true]
          rw [hwn, hw, e2]
          simp only [lnk ((a :: tl).length + 1) (by omega), cond_true]
          have e3 : ((a :: tl) ++ [opM (toM ms i) (frM ms i)]).length = (a :: tl).length + 1 := by simp
          unfold mkR
          simp only [e3]
          rfl
    · unfold stpM
      cases skipB (toM ms i) (frM ms i) <;> simp only [List.length_append, List.length_cons, List.length_nil] <;> omega
    · show (60 - ((i + 1 : Nat) : Int)).toNat < (60 - (i : Int)).toNat
      omega
theorem fin4_on (sg : Nat) (ms : List Int) (s : R4) (h : fin4 sg ms s = true) : On4 sg ms s (nx4 ms s) := by
  simp only [fin4, decide_eq_true_eq] at h
  obtain ⟨x, sp, p, l, rfl, h2, h3⟩ := h
  exact ⟨x, sp, (pOf (pB p), []), l, cntM l, 0, rfl, Nat.le_refl _, by omega, h2, h3, rfl⟩
theorem hook4 (sg : Nat) (ms : List Int) : ∀ w0 F, w0.nxt ≤ 8 → HookOK Tryz.prog env7 w0 F (ro1 sg ms) 184 B4 (loopSF ss4 par4 cA4 cB4 sh4 (fin4 sg ms) (nx4 ms)) := by
  rw [B4_eq]
  refine loopSF_ok (s := ss4) env7OK call7OK (b := .code LB4) (id := 0) (fun _ _ => trivial) (by decide) (by decide) (by decide) rfl (fun id b h => ?_) cn4_canon par4_eq (R := On4 sg ms) (μ := fun s => (60 - s.i).toNat) (fin4_on sg ms) (step4 sg ms)
  unfold ro1 at h
  split at h
  · injection h with h; subst h; rfl
  · unfold ro0 at h
    split at h
    · injection h with h; subst h; rfl
    · split at h
      · injection h with h; subst h; rfl
      · cases h
end Go.Proofs.YtmlfmkebljdoiaaGreatDoor
