/- Own text: the loops of lend and back, their rounds. -/
import Derived.Test.YtlmacdfbdhpljaaGreatDoorSq
import Derived.Test.YtlmacdfbdhpljaaGreatDoorSlm
import Derived.Test.YtlmacdfbdhpljaaGreatDoorOl
import Derived.Test.YtlmacdfbdhpljaaGreatDoorOi
import Derived.Test.YtlmacdfbdhpljaaGreatDoorPk
namespace Go.Proofs.YtlmacdfbdhpljaaGreatDoor
open Go.Ev Go.Ev.Tr Go.Proofs
set_option maxRecDepth 1000000
/-! ### lend -/
structure FillS where
  s : I
  n : Int
  clo : Int
  N : Int
  nclo : Int
  i : Int
  rn : Nat
  f : Nat → Int
def fillSp (R nx : Nat) : LSpecR := ⟨[(0, .v), (1, .v), (5, .v), (6, .i .i64 0 281474976710656)], [(R, [.r .u8 0 255])], nx, 1000000⟩
def fillCn (lo hi : Int) (R : Nat) (x : FillS) : SDR := ([.v (.ptr 7 (I.lit 0)), .v (.slice 6 1 x.s ⟨x.n, lo, hi⟩ x.clo magicS), .v (.slice R 1 (I.lit 0) ⟨x.N, lo + 64, hi + 64⟩ x.nclo magicS), .i x.i], [[.r x.rn x.f]])
noncomputable def fillR (lo hi : Int) (R nx : Nat) (x : FillS) : Option (X × SDR) := roundTR (envA sm1) noRO (callA sm1) (ntOf 45) (fillSp R nx) (withHooks (fun _ => none) (loopOf 45 0)) (fillCn lo hi R x)
def fillNext (x : FillS) : FillS := { x with i := x.i + 1, f := fun j => if j = x.i.toNat then 165 else x.f j }
def FillRd (lo hi : Int) (R nx : Nat) : Prop := ∀ s n clo N nclo i (rn : Nat) f, fillR lo hi R nx ⟨s, n, clo, N, nclo, i, rn, f⟩ =
    bif decide (i < N) then bif decide (0 ≤ i ∧ i < N) then bif decide (0 ≤ i ∧ i < (rn : Int)) then
      bif (decide (0 ≤ i + 1) && decide (i + 1 ≤ 281474976710656) && true) && (true && true) then some (.normal, fillCn lo hi R (fillNext ⟨s, n, clo, N, nclo, i, rn, f⟩)) else none
    else none else none
    else bif (decide (0 ≤ i) && decide (i ≤ 281474976710656) && true) && (true && true) then some (.exit 0, fillCn lo hi R ⟨s, n, clo, N, nclo, i, rn, f⟩) else none
theorem fillA : FillRd 0 499 8 1000 := fun _ _ _ _ _ _ _ _ => by kernel_rfl
theorem fillB : FillRd 0 499 8 4000 := fun _ _ _ _ _ _ _ _ => by kernel_rfl
theorem fillC : FillRd 500 140737488351232 8 1000 := fun _ _ _ _ _ _ _ _ => by kernel_rfl
theorem fillD : FillRd 500 140737488351232 3001 4000 := fun _ _ _ _ _ _ _ _ => by kernel_rfl
end Go.Proofs.YtlmacdfbdhpljaaGreatDoor

namespace Go.Proofs.YtlmacdfbdhpljaaGreatDoor
open Go.Ev Go.Ev.Tr Go.Proofs
set_option maxRecDepth 1000000
structure BackS where
  N : Int
  nclo : Int
  n : Int
  ok : Bool
  i : Int
  rn : Nat
  f : Nat → Int
def backSp (lo hi : Int) (R nx : Nat) : LSpecR := ⟨[(5, .v), (6, .i .i64 lo hi), (7, .b), (8, .i .i64 0 281474976710656)], [(R, [.r .u8 0 255])], nx, 1000000⟩
def backCn (lo hi : Int) (R : Nat) (x : BackS) : SDR := ([.v (.slice R 1 (I.lit 0) ⟨x.N, lo + 64, hi + 64⟩ x.nclo magicS), .i x.n, .b x.ok, .i x.i], [[.r x.rn x.f]])
noncomputable def backTT (lo hi : Int) (R nx : Nat) (x : BackS) : T (X × SDR) := roundTTR (envA sm1) noRO (callA sm1) (ntOf 46) (backSp lo hi R nx) (withHooks (fun _ => none) (loopOf 46 0)) (backCn lo hi R x)
noncomputable def backR (lo hi : Int) (R nx : Nat) (x : BackS) : Option (X × SDR) := (backTT lo hi R nx x).run
def backNext (x : BackS) (b : Bool) : BackS := { x with ok := b, i := x.i + 1, f := fun j => if j = x.i.toNat then 90 else x.f j }
def backSt (lo hi : Int) (R nx : Nat) (x : BackS) (b : Bool) : Option (X × SDR) := bif decide (0 ≤ x.i ∧ x.i < x.N) then bif decide (0 ≤ x.i ∧ x.i < (x.rn : Int)) then
    bif okStR (backSp lo hi R nx) (backCn lo hi R (backNext x b)) then some (.normal, backCn lo hi R (backNext x b)) else none else none else none
def BackRd (lo hi : Int) (R nx : Nat) : Prop := ∀ N nclo n ok i (rn : Nat) f, backR lo hi R nx ⟨N, nclo, n, ok, i, rn, f⟩ =
    bif decide (i < N) then
      bif ok then
        bif decide (i < n) then backSt lo hi R nx ⟨N, nclo, n, ok, i, rn, f⟩ true
        else bif decide (0 ≤ i ∧ i < N) then bif decide (0 ≤ i ∧ i < (rn : Int)) then backSt lo hi R nx ⟨N, nclo, n, ok, i, rn, f⟩ (f i.toNat == 165) else none else none
      else backSt lo hi R nx ⟨N, nclo, n, ok, i, rn, f⟩ false
    else bif okStR (backSp lo hi R nx) (backCn lo hi R ⟨N, nclo, n, ok, i, rn, f⟩) then some (.exit 0, backCn lo hi R ⟨N, nclo, n, ok, i, rn, f⟩) else none
theorem backA : BackRd 0 499 8 2000 := fun _ _ _ _ _ _ _ => by kernel_rfl
theorem backB : BackRd 0 499 8 5000 := fun _ _ _ _ _ _ _ => by kernel_rfl
theorem backC : BackRd 500 140737488351232 8 2000 := fun _ _ _ _ _ _ _ => by kernel_rfl
theorem backD : BackRd 500 140737488351232 3001 5000 := fun _ _ _ _ _ _ _ => by kernel_rfl
/-! ### how they end -/
def fillFin (x : FillS) : T (LX × FillS) := .br (decide (0 ≤ x.i ∧ x.i ≤ x.N ∧ x.N = (x.rn : Int) ∧ x.N ≤ 281474976710656)) (.ret (.nrm, { x with i := x.N, f := fun j => if x.i ≤ (j : Int) ∧ (j : Int) < x.N then 165 else x.f j })) .fail
theorem fill_leads {lo hi : Int} {R nx : Nat} (h : FillRd lo hi R nx) : LeadsR (envA sm1) noRO (callA sm1) (ntOf 45) (fillSp R nx) (withHooks (fun _ => none) (loopOf 45 0)) 0 (fillCn lo hi R) fillFin (fun x => (x.N - x.i).toNat) := by
  rintro ⟨s, n, clo, N, nclo, i, rn, f⟩ r hr
  have hrd := h s n clo N nclo i rn f
  unfold fillR at hrd
  unfold fillFin at hr
  simp only [T.run] at hr
  cases hc : decide (0 ≤ i ∧ i ≤ N ∧ N = (rn : Int) ∧ N ≤ 281474976710656) with
  | false => rw [hc] at hr; cases hr
  | true =>
    rw [hc] at hr
    simp only [cond_true, Option.some.injEq] at hr
    subst hr
    obtain ⟨h1, h2, h3, h4⟩ := of_decide_eq_true hc
    rw [hrd]
    by_cases hiN : i < N
    · left
      refine ⟨fillNext ⟨s, n, clo, N, nclo, i, rn, f⟩, ?_, ?_, ?_⟩
      · rw [decide_eq_true hiN, decide_eq_true (show 0 ≤ i ∧ i < N from ⟨h1, hiN⟩), decide_eq_true (show 0 ≤ i ∧ i < (rn : Int) by omega), decide_eq_true (show 0 ≤ i + 1 by omega), decide_eq_true (show i + 1 ≤ 281474976710656 by omega)]
        rfl
      · unfold fillFin fillNext
        simp only [T.run]
        rw [decide_eq_true (show 0 ≤ i + 1 ∧ i + 1 ≤ N ∧ N = (rn : Int) ∧ N ≤ 281474976710656 by omega)]
        simp only [cond_true, Option.some.injEq, Prod.mk.injEq, true_and, FillS.mk.injEq]
        funext j
        by_cases e1 : i ≤ (j : Int) ∧ (j : Int) < N
        · rw [if_pos e1]
          by_cases e2 : i + 1 ≤ (j : Int) ∧ (j : Int) < N
          · rw [if_pos e2]
          · rw [if_neg e2, if_pos (by omega)]
        · rw [if_neg e1, if_neg (by omega), if_neg (by omega)]
      · show (N - (i + 1)).toNat < (N - i).toNat
        omega
    · right; left
      refine ⟨?_, rfl⟩
      rw [decide_eq_false hiN, decide_eq_true h1, decide_eq_true (show i ≤ 281474976710656 by omega)]
      have e : i = N := by omega
      subst e
      show some (X.exit 0, fillCn lo hi R _) = some (X.exit 0, fillCn lo hi R _)
      have : (fun j : Nat => if i ≤ (j : Int) ∧ (j : Int) < i then (165 : Int) else f j) = f := by
        funext j
        rw [if_neg (by omega)]
      rw [this]
def eqI (i : I) (n lo hi : Int) : Bool := ieq i.n n && ieq i.lo lo && ieq i.hi hi
theorem eqI_eq {i : I} {n lo hi : Int} (h : eqI i n lo hi = true) : i = ⟨n, lo, hi⟩ := by
  simp only [eqI, Bool.and_eq_true, ieq_iff] at h
  obtain ⟨⟨h1, h2⟩, h3⟩ := h
  cases i; subst h1; subst h2; subst h3; rfl
def bdI (i : I) (lo hi : Int) : Bool := ieq i.lo lo && ieq i.hi hi
theorem bdI_eq {i : I} {lo hi : Int} (h : bdI i lo hi = true) : i = ⟨i.n, lo, hi⟩ := by
  simp only [bdI, Bool.and_eq_true, ieq_iff] at h
  cases i; simp only at h; rw [h.1, h.2]
def fillPar (lo hi : Int) (R : Nat) : SDR → Option FillS
  | ([.v (.ptr b0 o0), .v (.slice b1 e1 o1 l1 c1 d1), .v (.slice b2 e2 o2 l2 c2 d2), .i i], [[.r rn f]]) => match Nat.beq b0 7 && eqI o0 0 0 0 && (Nat.beq b1 6 && Nat.beq e1 1 && bdI l1 lo hi && ieq d1 magicS) && (Nat.beq b2 R && Nat.beq e2 1 && eqI o2 0 0 0 && bdI l2 (lo + 64) (hi + 64) && ieq d2 magicS) with
    | true => some ⟨o1, l1.n, c1, l2.n, c2, i, rn, f⟩
    | false => none
  | _ => none
theorem fillPar_eq {lo hi : Int} {R : Nat} (d : SDR) (x : FillS) (h : fillPar lo hi R d = some x) : d = fillCn lo hi R x := by
  unfold fillPar at h
  split at h <;> try contradiction
  split at h <;> try contradiction
  rename_i hc
  injection h with h; subst h
  simp only [Bool.and_eq_true, ieq_iff] at hc
  obtain ⟨⟨⟨a1, a2⟩, ⟨⟨a3, a4⟩, a6⟩, a7⟩, ⟨⟨⟨a8, a9⟩, a10⟩, a11⟩, a12⟩ := hc
  have a1 := Nat.eq_of_beq_eq_true a1
  have a3 := Nat.eq_of_beq_eq_true a3
  have a4 := Nat.eq_of_beq_eq_true a4
  have a8 := Nat.eq_of_beq_eq_true a8
  have a9 := Nat.eq_of_beq_eq_true a9
  have a2 := eqI_eq a2
  have a10 := eqI_eq a10
  have a6 := bdI_eq a6
  have a11 := bdI_eq a11
  subst a1; subst a3; subst a4; subst a8; subst a9; subst a2; subst a10; subst a7; subst a12
  unfold fillCn
  rw [← a6, ← a11]
  rfl
def fillHk (lo hi : Int) (R nx : Nat) : St → T (X × St) := ownHook [R] (loopFR (fillSp R nx) (fillPar lo hi R) (fillCn lo hi R) fillFin)
theorem noRO_F (n : Nat) : RoF n noRO := fun _ _ h => by cases h
theorem loop45 : blocksOf 0 (bodyOf 45) = [.loop (loopOf 45 0)] := by kernel_rfl
theorem loop46 : blocksOf 0 (bodyOf 46) = [.loop (loopOf 46 0)] := by kernel_rfl
theorem fillHk_ok {lo hi : Int} {R nx : Nat} (h : FillRd lo hi R nx) (h6 : 6 ≤ nx) : ∀ w0 F ro, HookOK Tryz.prog (envA sm1) w0 F ro (ntOf 45) (.block 0 (.loop (loopOf 45 0))) (fillHk lo hi R nx) :=
  ownHook_ok fun w0 F => by
    have := loopF_okR (envAOK sm1) (callAOK sm1_ok) (b := withHooks (fun _ => none) (loopOf 45 0)) (id := 0) (sp := fillSp R nx) (noRO_F nx) h6 (fun w0 F => withHooks_ok _ fun _ _ _ h _ => by cases h) (fillPar_eq (lo := lo) (hi := hi) (R := R)) (fill_leads h) w0 F
    rw [withHooks_erase] at this
    exact this
def backAll (x : BackS) : Bool := (List.range x.rn).all fun j => decide ((j : Int) < x.i) || decide ((j : Int) < x.n) || (x.f j == 165)
def backFin (lo hi : Int) (x : BackS) : T (LX × BackS) := .br (decide (0 ≤ x.i ∧ x.i ≤ x.N ∧ x.N = (x.rn : Int) ∧ x.N ≤ 281474976710656 ∧ lo ≤ x.n ∧ x.n ≤ hi)) (.ret (.nrm, { x with ok := x.ok && backAll x, i := x.N, f := fun j => if x.i ≤ (j : Int) ∧ (j : Int) < x.N then 90 else x.f j })) .fail
theorem backAll_iff {x : BackS} : backAll x = true ↔ ∀ j : Nat, j < x.rn → x.i ≤ (j : Int) → x.n ≤ (j : Int) → x.f j = 165 := by
  simp only [backAll, List.all_eq_true, List.mem_range, Bool.or_eq_true, decide_eq_true_eq, beq_iff_eq]
  constructor
  · intro h j h1 h2 h3
    rcases h j h1 with (q | q) | q
    · omega
    · omega
    · exact q
  · intro h j h1
    by_cases h2 : (j : Int) < x.i
    · exact .inl (.inl h2)
    · by_cases h3 : (j : Int) < x.n
      · exact .inl (.inr h3)
      · exact .inr (h j h1 (by omega) (by omega))
theorem backAll_step {N nclo n i : Int} {ok : Bool} {rn : Nat} {f : Nat → Int} (h0 : 0 ≤ i) (h1 : i < (rn : Int)) (b : Bool) : (b && backAll ⟨N, nclo, n, ok, i, rn, f⟩) = ((b && (decide (i < n) || (f i.toNat == 165))) && backAll (backNext ⟨N, nclo, n, ok, i, rn, f⟩ (b && (decide (i < n) || (f i.toNat == 165))))) := by
  cases b with
  | false => rfl
  | true =>
    simp only [Bool.true_and]
    rw [Bool.eq_iff_iff, Bool.and_eq_true, backAll_iff, backAll_iff]
    show (∀ j : Nat, j < rn → i ≤ (j : Int) → n ≤ (j : Int) → f j = 165) ↔ _ ∧ ∀ j : Nat, j < rn → i + 1 ≤ (j : Int) → n ≤ (j : Int) → (if j = i.toNat then 90 else f j) = 165
    simp only [Bool.or_eq_true, decide_eq_true_eq, beq_iff_eq]
    constructor
    · intro h
      refine ⟨?_, fun j hj a b => ?_⟩
      · by_cases e : i < n
        · exact .inl e
        · exact .inr (h i.toNat (by omega) (by omega) (by omega))
      · rw [if_neg (by omega)]
        exact h j hj (by omega) b
    · rintro ⟨g1, g2⟩ j hj a b
      by_cases e : j = i.toNat
      · rcases g1 with q | q
        · omega
        · rw [e]; exact q
      · have := g2 j hj (by omega) b
        rw [if_neg e] at this; exact this
theorem back_leads {lo hi : Int} {R nx : Nat} (h : BackRd lo hi R nx) : LeadsR (envA sm1) noRO (callA sm1) (ntOf 46) (backSp lo hi R nx) (withHooks (fun _ => none) (loopOf 46 0)) 0 (backCn lo hi R) (backFin lo hi) (fun x => (x.N - x.i).toNat) := by
  rintro ⟨N, nclo, n, ok, i, rn, f⟩ r hr
  have hrd := h N nclo n ok i rn f
  unfold backR backTT at hrd
  unfold backFin at hr
  simp only [T.run] at hr
  cases hc : decide (0 ≤ i ∧ i ≤ N ∧ N = (rn : Int) ∧ N ≤ 281474976710656 ∧ lo ≤ n ∧ n ≤ hi) with
  | false => rw [hc] at hr; cases hr
  | true =>
    rw [hc] at hr
    simp only [cond_true, Option.some.injEq] at hr
    subst hr
    obtain ⟨h1, h2, h3, h4, h5, h6⟩ := of_decide_eq_true hc
    unfold roundTR
    rw [hrd]
    have okN : i < N → ∀ b, okStR (backSp lo hi R nx) (backCn lo hi R (backNext ⟨N, nclo, n, ok, i, rn, f⟩ b)) = true := fun hh b => by
      simp only [okStR, backSp, backCn, backNext, okTsR, okBsR, okKR, okCsR, Bool.and_true, Bool.true_and, Bool.and_eq_true, decide_eq_true_eq]
      omega
    have okE : okStR (backSp lo hi R nx) (backCn lo hi R ⟨N, nclo, n, ok, i, rn, f⟩) = true := by
      simp only [okStR, backSp, backCn, okTsR, okBsR, okKR, okCsR, Bool.and_true, Bool.true_and, Bool.and_eq_true, decide_eq_true_eq]
      omega
    by_cases hiN : i < N
    · left
      have hst : ∀ b, backSt lo hi R nx ⟨N, nclo, n, ok, i, rn, f⟩ b = some (.normal, backCn lo hi R (backNext ⟨N, nclo, n, ok, i, rn, f⟩ b)) := fun b => by
        unfold backSt
        rw [okN hiN b, decide_eq_true (show 0 ≤ i ∧ i < N from ⟨h1, hiN⟩), decide_eq_true (show 0 ≤ i ∧ i < (rn : Int) by omega)]
        rfl
      refine ⟨backNext ⟨N, nclo, n, ok, i, rn, f⟩ (ok && (decide (i < n) || (f i.toNat == 165))), ?_, ?_, ?_⟩
      · rw [decide_eq_true hiN, cond_true, hst, hst, hst, decide_eq_true (show 0 ≤ i ∧ i < N from ⟨h1, hiN⟩), decide_eq_true (show 0 ≤ i ∧ i < (rn : Int) by omega)]
        cases ok with
        | false => rfl
        | true =>
          cases decide (i < n) <;> rfl
      · unfold backFin
        simp only [T.run]
        have e := backAll_step (N := N) (nclo := nclo) (n := n) (ok := ok) (f := f) h1 (show i < (rn : Int) by omega) ok
        show (bif decide (0 ≤ i + 1 ∧ i + 1 ≤ N ∧ N = (rn : Int) ∧ N ≤ 281474976710656 ∧ lo ≤ n ∧ n ≤ hi) then some (LX.nrm, BackS.mk N nclo n ((ok && (decide (i < n) || (f i.toNat == 165))) && backAll (backNext ⟨N, nclo, n, ok, i, rn, f⟩ (ok && (decide (i < n) || (f i.toNat == 165))))) N rn (fun j => if i + 1 ≤ (j : Int) ∧ (j : Int) < N then 90 else if j = i.toNat then 90 else f j)) else none) = _
        rw [decide_eq_true (show 0 ≤ i + 1 ∧ i + 1 ≤ N ∧ N = (rn : Int) ∧ N ≤ 281474976710656 ∧ lo ≤ n ∧ n ≤ hi by omega), e]
        simp only [cond_true, Option.some.injEq, Prod.mk.injEq, true_and, BackS.mk.injEq]
        funext j
        by_cases e1 : i ≤ (j : Int) ∧ (j : Int) < N
        · rw [if_pos e1]
          by_cases e2 : i + 1 ≤ (j : Int) ∧ (j : Int) < N
          · rw [if_pos e2]
          · rw [if_neg e2, if_pos (by omega)]
        · rw [if_neg e1, if_neg (by omega), if_neg (by omega)]
      · show (N - (i + 1)).toNat < (N - i).toNat
        omega
    · right; left
      refine ⟨?_, rfl⟩
      rw [decide_eq_false hiN, okE]
      have e : i = N := by omega
      subst e
      show some (X.exit 0, backCn lo hi R _) = some (X.exit 0, backCn lo hi R _)
      have e1 : (fun j : Nat => if i ≤ (j : Int) ∧ (j : Int) < i then (90 : Int) else f j) = f := by
        funext j
        rw [if_neg (by omega)]
      have e2 : backAll ⟨i, nclo, n, ok, i, rn, f⟩ = true := by
        rw [backAll_iff]
        intro j hj a b
        have a : i ≤ (j : Int) := a
        have hj : j < rn := hj
        omega
      rw [e1, e2, Bool.and_true]
def backPar (lo hi : Int) (R : Nat) : SDR → Option BackS
  | ([.v (.slice b2 e2 o2 l2 c2 d2), .i n, .b ok, .i i], [[.r rn f]]) => match Nat.beq b2 R && Nat.beq e2 1 && eqI o2 0 0 0 && bdI l2 (lo + 64) (hi + 64) && ieq d2 magicS with
    | true => some ⟨l2.n, c2, n, ok, i, rn, f⟩
    | false => none
  | _ => none
theorem backPar_eq {lo hi : Int} {R : Nat} (d : SDR) (x : BackS) (h : backPar lo hi R d = some x) : d = backCn lo hi R x := by
  unfold backPar at h
  split at h <;> try contradiction
  split at h <;> try contradiction
  rename_i hc
  injection h with h; subst h
  simp only [Bool.and_eq_true, ieq_iff] at hc
  obtain ⟨⟨⟨⟨a8, a9⟩, a10⟩, a11⟩, a12⟩ := hc
  have a8 := Nat.eq_of_beq_eq_true a8
  have a9 := Nat.eq_of_beq_eq_true a9
  have a10 := eqI_eq a10
  have a11 := bdI_eq a11
  subst a8; subst a9; subst a10; subst a12
  unfold backCn
  rw [← a11]
  rfl
def backHk (lo hi : Int) (R nx : Nat) : St → T (X × St) := ownHook [R] (loopFR (backSp lo hi R nx) (backPar lo hi R) (backCn lo hi R) (backFin lo hi))
theorem backHk_ok {lo hi : Int} {R nx : Nat} (h : BackRd lo hi R nx) (h6 : 6 ≤ nx) : ∀ w0 F ro, HookOK Tryz.prog (envA sm1) w0 F ro (ntOf 46) (.block 0 (.loop (loopOf 46 0))) (backHk lo hi R nx) :=
  ownHook_ok fun w0 F => by
    have := loopF_okR (envAOK sm1) (callAOK sm1_ok) (b := withHooks (fun _ => none) (loopOf 46 0)) (id := 0) (sp := backSp lo hi R nx) (noRO_F nx) h6 (fun w0 F => withHooks_ok _ fun _ _ _ h _ => by cases h) (backPar_eq (lo := lo) (hi := hi) (R := R)) (back_leads h) w0 F
    rw [withHooks_erase] at this
    exact this
/-! ### both, as summaries -/
def pickHk (t nx : Nat) (a b c d : St → T (X × St)) (st : St) : T (X × St) := match tmpV st.tmps t with
  | .slice _ _ _ len _ _ => match Nat.ble st.hp.nxt nx with
    | true => match ieq len.lo 64 with
      | true => a st
      | false => c st
    | false => match ieq len.lo 64 with
      | true => b st
      | false => d st
  | _ => .fail
theorem pickHk_ok {E : Env} {w0 : Base} {F : Nat → Prop} {ro : RO} {nt t nx : Nat} {cd : Code} {a b c d : St → T (X × St)} (ha : HookOK Tryz.prog E w0 F ro nt cd a) (hb : HookOK Tryz.prog E w0 F ro nt cd b) (hc : HookOK Tryz.prog E w0 F ro nt cd c) (hd : HookOK Tryz.prog E w0 F ro nt cd d) : HookOK Tryz.prog E w0 F ro nt cd (pickHk t nx a b c d) := by
  intro ρ st ac w r hs h
  unfold pickHk at h
  split at h <;> try (cases h; done)
  split at h
  · split at h
    · exact ha ρ st ac w r hs h
    · exact hc ρ st ac w r hs h
  · split at h
    · exact hb ρ st ac w r hs h
    · exact hd ρ st ac w r hs h
def fillH : St → T (X × St) := pickHk 5 1000 (fillHk 0 499 8 1000) (fillHk 0 499 8 4000) (fillHk 500 140737488351232 8 1000) (fillHk 500 140737488351232 3001 4000)
def backH : St → T (X × St) := pickHk 5 2000 (backHk 0 499 8 2000) (backHk 0 499 8 5000) (backHk 500 140737488351232 8 2000) (backHk 500 140737488351232 3001 5000)
/-- A function whose first loop is told, in any memory. -/
noncomputable def hookSum (f : Nat) (h : St → T (X × St)) : Summ := fun ro hp args => bodyF2 (envA sm1) 10000 (callA sm1) ro (fnOf f) (withHooks (hook1 0 h) (bodyOf f)) args hp
theorem hookSum_at {f : Nat} {h : St → T (X × St)} (hf : fns.get f = some (fnOf f)) (hb : (fnOf f).body = some (bodyOf f)) (hl : blocksOf 0 (bodyOf f) = [.loop (loopOf f 0)])
    (hh : ∀ w0 F ro, HookOK Tryz.prog (envA sm1) w0 F ro (ntOf f) (.block 0 (.loop (loopOf f 0))) h) : SumAt f (hookSum f h) := by
  intro ro hp args r hr w0 F ρ w l hrel hargs
  refine ⟨callsAt f _ hf _, bodyF2_sound (E := envA sm1) (c := withHooks (hook1 0 h) (bodyOf f)) (envAOK sm1) (callAOK sm1_ok) ((envAOK sm1).fn _ _ hf) (by rw [withHooks_erase]; exact hb) (withHooks_ok _ fun id g b h1 h2 => ?_) hr hrel hargs⟩
  unfold hook1 at h1
  split at h1 <;> try contradiction
  rename_i hid
  have hid := Nat.eq_of_beq_eq_true hid
  subst hid
  injection h1 with h1; subst h1
  rw [hl] at h2
  have e : b = .loop (loopOf f 0) := by simpa using h2
  subst e
  exact hh w0 F ro
noncomputable def lendSum : Summ := hookSum 45 fillH
noncomputable def backSum : Summ := hookSum 46 backH
theorem lend_at : SumAt 45 lendSum := hookSum_at (by kernel_rfl) (by kernel_rfl) loop45 fun w0 F ro => pickHk_ok (fillHk_ok fillA (by decide) w0 F ro) (fillHk_ok fillB (by decide) w0 F ro) (fillHk_ok fillC (by decide) w0 F ro) (fillHk_ok fillD (by decide) w0 F ro)
theorem back_at : SumAt 46 backSum := hookSum_at (by kernel_rfl) (by kernel_rfl) loop46 fun w0 F ro => pickHk_ok (backHk_ok backA (by decide) w0 F ro) (backHk_ok backB (by decide) w0 F ro) (backHk_ok backC (by decide) w0 F ro) (backHk_ok backD (by decide) w0 F ro)
end Go.Proofs.YtlmacdfbdhpljaaGreatDoor

namespace Go.Proofs.YtlmacdfbdhpljaaGreatDoor
open Go.Ev Go.Ev.Tr Go.Proofs
set_option maxRecDepth 1000000
noncomputable def smH0 (f : Nat) : Option Summ := match Nat.beq f 15 with
  | true => some (trueSum noArgs)
  | false => match Nat.beq f 45 with
    | true => some lendSum
    | false => match Nat.beq f 46 with
      | true => some backSum
      | false => sm1 f
noncomputable def smH (f : Nat) : Option Summ := match Nat.beq f 21 with
  | true => some disSum
  | false => match Nat.beq f 47 with
    | true => some disSum
    | false => smH0 f
/-- The place of a slice: of its bounds nothing is asked. -/
def pl (s : Nat) : I := ⟨s, -1, s⟩
def argV (lo hi : Int) (s : I) (n clo : Int) : V := .slice 6 1 s ⟨n, lo, hi⟩ clo magicS
/-- The way through a tree: the conditions met, and the end. -/
def pathT {α : Type} : List Bool → T α → Option (List Bool × α)
  | [], .ret a => some ([], a)
  | d :: ds, .br b t e => match d with
    | true => match pathT ds t with
      | some p => some (b :: p.1, p.2)
      | none => none
    | false => match pathT ds e with
      | some p => some (b :: p.1, p.2)
      | none => none
  | _, _ => none
theorem pathT_run {α : Type} : ∀ {ds : List Bool} {t : T α} {cs : List Bool} {a : α}, pathT ds t = some (cs, a) → cs = ds → t.run = some a
  | [], .ret b, cs, a, h, _ => by
    simp only [pathT, Option.some.injEq, Prod.mk.injEq] at h
    simp only [T.run, h.2]
  | [], .br .., _, _, h, _ => by cases h
  | [], .fail, _, _, h, _ => by cases h
  | _ :: _, .ret _, _, _, h, _ => by cases h
  | _ :: _, .fail, _, _, h, _ => by cases h
  | d :: ds, .br b t e, cs, a, h, hc => by
    cases d with
    | true =>
      simp only [pathT] at h
      split at h <;> try contradiction
      rename_i p hp
      injection h with h
      injection h with h1 h2
      subst h1; subst h2
      injection hc with e1 e2
      subst e1
      simp only [T.run, cond_true]
      exact pathT_run (show pathT ds t = some (p.1, p.2) from hp) e2
    | false =>
      simp only [pathT] at h
      split at h <;> try contradiction
      rename_i p hp
      injection h with h
      injection h with h1 h2
      subst h1; subst h2
      injection hc with e1 e2
      subst e1
      simp only [T.run, cond_false]
      exact pathT_run (show pathT ds e = some (p.1, p.2) from hp) e2
def onlyT {α : Type} : List Bool → T α → T α
  | d :: ds, .br b t e => match d with
    | true => .br b (onlyT ds t) .fail
    | false => .br b .fail (onlyT ds e)
  | _, t => t
structure OutS where
  s : I
  n : Int
  clo : Int
  org : Int
  up : Bool
  a : Bool
  i : Int
  k : Nat
  N : Int
  nclo : Int
  rn : Nat
  f : Nat → Int
def xs12 : List KSR := [.x, .x, .x, .x, .x, .x, .x, .x, .x, .x, .x, .x]
def nul12 : List SVR := [.nul, .nul, .nul, .nul, .nul, .nul, .nul, .nul, .nul, .nul, .nul, .nul]
def outTs : List (Nat × KSR) := [(0, .v), (2, .i .i64 (-9223372036854775808) 9223372036854775807), (7, .b), (8, .p 7), (9, .b), (10, .i .i64 0 281474976710656)]
def outSpA : LSpecM := ⟨⟨outTs, [(7, xs12), (8, [.r .u8 0 255])], 3000, 1000000⟩, 7, 0, .last true, 1, 4194303⟩
def outSpB : LSpecM := ⟨⟨outTs, [(7, xs12)], 3000, 1000000⟩, 7, 0, .last false, 1, 4194303⟩
def rowA (x : OutS) : V := .slice 8 1 (I.lit 0) ⟨x.N, 64, 563⟩ x.nclo magicS
def outCnA (x : OutS) : SDM := (([.v (argV 0 499 x.s x.n x.clo), .i x.org, .b x.up, .nul, .b x.a, .i x.i], [nul12, [.r x.rn x.f]]), .last x.k (rowA x))
def outCnB (x : OutS) : SDM := (([.v (argV 500 140737488351232 x.s x.n x.clo), .i x.org, .b x.up, .nul, .b x.a, .i x.i], [nul12]), .last x.k .nilp)
noncomputable def outTA (s : Nat) (xs : List Int) (x : OutS) : T (X × SDM) := roundTTM (envA smH) (roG s xs) (callA smH) (ntOf 5) outSpA (withHooks (fun _ => none) (loopOf 5 0)) (outCnA x)
noncomputable def outTB (s : Nat) (xs : List Int) (x : OutS) : T (X × SDM) := roundTTM (envA smH) (roG s xs) (callA smH) (ntOf 5) outSpB (withHooks (fun _ => none) (loopOf 5 0)) (outCnB x)
end Go.Proofs.YtlmacdfbdhpljaaGreatDoor

namespace Go.Proofs.YtlmacdfbdhpljaaGreatDoor
open Go.Ev Go.Ev.Tr Go.Proofs
set_option maxRecDepth 1000000
def xfA (s0 : Nat) (xs : List Int) : Nat → Int := fun i => xs.getD (i - s0) 0
def cpF (s n : Int) (xf f : Nat → Int) : Nat → Int := fun j => if j < n.toNat then xf (s.toNat + j) else f j
def fillF (i N : Int) (f : Nat → Int) : Nat → Int := fun j => if i ≤ (j : Int) ∧ (j : Int) < N then 165 else f j
def ninF (i N : Int) (f : Nat → Int) : Nat → Int := fun j => if i ≤ (j : Int) ∧ (j : Int) < N then 90 else f j
/-- What was lent, as back finds it. -/
def backB' (s0 : Nat) (xs : List Int) (s n nclo : Int) (rn : Nat) (g : Nat → Int) : BackS := ⟨n + 64 - 0, nclo - 0, n, bytesEq (bytesAt g 0 (n - 0).toNat) (bytesAt (xfA s0 xs) s.toNat n.toNat), 0, rn, g⟩
def x1A (n org i : Int) (g : Nat → Int) : Ins := insX (n - 0 - i) (gB (fun j => g (0 + j)) (n - 0) i.toNat) (gB (fun j => g (0 + j)) (n - 0) (i.toNat + 1)) (gB (fun j => g (0 + j)) (n - 0) (i.toNat + 2)) (org + i)
def x2A (s0 : Nat) (xs : List Int) (s n org i : Int) : Ins := insX (n - i) (gB (fun j => xfA s0 xs (s.toNat + j)) n i.toNat) (gB (fun j => xfA s0 xs (s.toNat + j)) n (i.toNat + 1)) (gB (fun j => xfA s0 xs (s.toNat + j)) n (i.toNat + 2)) (org + i)
def insEq (a b : Ins) : Bool := bytesEqS (txU a.1) (txU b.1) && ((a.2.1 == b.2.1) && ((a.2.2.1 == b.2.2.1) && (a.2.2.2 == b.2.2.2)))
def gA (s0 : Nat) (xs : List Int) (s n : Int) (f : Nat → Int) : Nat → Int := fillF n (n + 64 - 0) (cpF s n (xfA s0 xs) f)
def nextA (s0 : Nat) (xs : List Int) (x : OutS) : OutS := { x with a := true, i := x.i + 1, k := x.k + 1, N := x.n + 64 - 0, nclo := x.nclo - 0, f := ninF 0 (x.n + 64 - 0) (gA s0 xs (s0 : Int) x.n x.f) }
def condsA (s0 : Nat) (xs : List Int) (x : OutS) : List Bool := [decide (x.i < x.n), x.a, decide (x.n + 64 = x.n + 64), decide (0 ≤ (x.k : Int) - 1 ∧ (x.k : Int) - 1 < x.k), decide ((x.k : Int) - 1 = (x.k : Int) - 1), decide (x.n + 64 ≤ x.N), decide (0 ≤ (x.k : Int) - 1 ∧ (x.k : Int) - 1 < x.k), decide ((x.k : Int) - 1 = (x.k : Int) - 1), decide (0 < x.nclo ∧ 0 ≤ x.n + 64 ∧ x.n + 64 ≤ x.nclo),
  decide (x.n ≤ x.n + 64 - 0 ∧ (s0 : Int) ≤ (s0 : Int) ∧ (s0 : Int) + x.n ≤ (s0 : Int) + (xs.length : Int) ∧ x.n + 64 - 0 ≤ (x.rn : Int)), okStR (fillSp 8 4000) (fillCn 0 499 8 ⟨pl s0, x.n, x.clo, x.n + 64 - 0, x.nclo - 0, x.n, x.rn, cpF (s0 : Int) x.n (xfA s0 xs) x.f⟩), decide (0 ≤ x.n ∧ x.n ≤ x.n + 64 - 0 ∧ x.n + 64 - 0 = (x.rn : Int) ∧ x.n + 64 - 0 ≤ 281474976710656), decide ((x.k : Int) = x.k), decide (0 < x.nclo - 0 ∧ 0 ≤ x.n ∧ x.n ≤ x.nclo - 0), true]
def condsA2 (s0 : Nat) (xs : List Int) (x : OutS) (g : Nat → Int) : List Bool := [decide (0 ≤ (x.k : Int) + 1 - 1 ∧ (x.k : Int) + 1 - 1 < (x.k : Int) + 1), decide ((x.k : Int) + 1 - 1 = ((x.k + 1 : Nat) : Int) - 1), decide (0 < x.nclo - 0 ∧ 0 ≤ x.n ∧ x.n ≤ x.nclo - 0), decide (((0 : Nat) : Int) ≤ 0 ∧ 0 + (x.n - 0) ≤ ((0 : Nat) : Int) + (x.rn : Int) ∧ x.n - 0 ≤ 281474976710656), decide ((s0 : Int) ≤ (s0 : Int) ∧ (s0 : Int) + x.n ≤ (s0 : Int) + (xs.length : Int) ∧ x.n ≤ 281474976710656),
  okStR (backSp 0 499 8 5000) (backCn 0 499 8 (backB' s0 xs (s0 : Int) x.n x.nclo x.rn g)), decide ((0 : Int) ≤ 0 ∧ 0 ≤ x.n + 64 - 0 ∧ x.n + 64 - 0 = (x.rn : Int) ∧ x.n + 64 - 0 ≤ 281474976710656 ∧ 0 ≤ x.n ∧ x.n ≤ 499), decide ((s0 : Int) ≤ (s0 : Int) ∧ (s0 : Int) + x.n ≤ (s0 : Int) + (xs.length : Int))]
def condsA3 (s0 : Nat) (xs : List Int) (x : OutS) (g : Nat → Int) : List Bool := [(backB' s0 xs (s0 : Int) x.n x.nclo x.rn g).ok && backAll (backB' s0 xs (s0 : Int) x.n x.nclo x.rn g)]
def endA (s0 : Nat) (xs : List Int) (x : OutS) : Bool := decide ((x.k : Int) + 1 = ((x.k + 1 : Nat) : Int)) && okStM outSpA (outCnA (nextA s0 xs x))
theorem outA_in (s0 : Nat) (xs : List Int) (n clo org : Int) (up a : Bool) (i : Int) (k : Nat) (N nclo : Int) (rn : Nat) (f : Nat → Int) (x : OutS) (hx : x = ⟨pl s0, n, clo, org, up, a, i, k, N, nclo, rn, f⟩) : pathT (List.replicate 28 true) (outTA s0 xs ⟨pl s0, n, clo, org, up, a, i, k, N, nclo, rn, f⟩) =
    some (condsA s0 xs x ++ [decide (0 ≤ i ∧ i < n - 0 ∧ 0 ≤ org ∧ org ≤ 65535 ∧ org + (n - 0) ≤ 65536)] ++ condsA2 s0 xs x (gA s0 xs s0 n f) ++ [decide (0 ≤ i ∧ i < n ∧ 0 ≤ org ∧ org ≤ 65535 ∧ org + n ≤ 65536)] ++ condsA3 s0 xs x (gA s0 xs s0 n f) ++ [insEq (x1A n org i (gA s0 xs s0 n f)) (x2A s0 xs s0 n org i)] ++ [endA s0 xs x],
      (.normal, outCnA (nextA s0 xs x))) := by subst hx; kernel_rfl
theorem outA_out (s0 : Nat) (xs : List Int) (n clo org : Int) (up a : Bool) (i : Int) (k : Nat) (N nclo : Int) (rn : Nat) (f : Nat → Int) (x : OutS) (hx : x = ⟨pl s0, n, clo, org, up, a, i, k, N, nclo, rn, f⟩) : pathT (List.replicate 15 true ++ [false] ++ List.replicate 8 true ++ [false] ++ List.replicate 2 true) (outTA s0 xs ⟨pl s0, n, clo, org, up, a, i, k, N, nclo, rn, f⟩) =
    some (condsA s0 xs x ++ [decide (0 ≤ i ∧ i < n - 0 ∧ 0 ≤ org ∧ org ≤ 65535 ∧ org + (n - 0) ≤ 65536)] ++ condsA2 s0 xs x (gA s0 xs s0 n f) ++ [decide (0 ≤ i ∧ i < n ∧ 0 ≤ org ∧ org ≤ 65535 ∧ org + n ≤ 65536)] ++ condsA3 s0 xs x (gA s0 xs s0 n f) ++ [endA s0 xs x],
      (.normal, outCnA (nextA s0 xs x))) := by subst hx; kernel_rfl
theorem outA_end (s0 : Nat) (xs : List Int) (n clo org : Int) (up a : Bool) (i : Int) (k : Nat) (N nclo : Int) (rn : Nat) (f : Nat → Int) (x : OutS) (hx : x = ⟨pl s0, n, clo, org, up, a, i, k, N, nclo, rn, f⟩) : pathT [false, true] (outTA s0 xs ⟨pl s0, n, clo, org, up, a, i, k, N, nclo, rn, f⟩) =
    some ([decide (i < n), decide ((k : Int) = k) && okStM outSpA (outCnA x)], (.exit 0, outCnA x)) := by subst hx; kernel_rfl
end Go.Proofs.YtlmacdfbdhpljaaGreatDoor

namespace Go.Proofs.YtlmacdfbdhpljaaGreatDoor
open Go.Ev Go.Ev.Tr Go.Proofs
set_option maxRecDepth 1000000
def gB' (s0 : Nat) (xs : List Int) (s n : Int) : Nat → Int := fillF n (n + 64) (cpF s n (xfA s0 xs) (fun _ => 0))
def backBB (s0 : Nat) (xs : List Int) (s n : Int) : BackS := ⟨n + 64, n + 64, n, bytesEq (bytesAt (gB' s0 xs s n) 0 (n - 0).toNat) (bytesAt (xfA s0 xs) s.toNat n.toNat), 0, (n + 64).toNat, gB' s0 xs s n⟩
def nextB (x : OutS) : OutS := { x with a := true, i := x.i + 1, k := x.k + 1 }
def condsB (s0 : Nat) (xs : List Int) (x : OutS) : List Bool := [decide (x.i < x.n), x.a, decide (x.n + 64 = x.n + 64), decide (x.n ≤ x.n + 64 ∧ (s0 : Int) ≤ (s0 : Int) ∧ (s0 : Int) + x.n ≤ (s0 : Int) + (xs.length : Int) ∧ x.n + 64 ≤ ((x.n + 64).toNat : Int)), okStR (fillSp 3001 4000) (fillCn 500 140737488351232 3001 ⟨pl s0, x.n, x.clo, x.n + 64, x.n + 64, x.n, (x.n + 64).toNat, cpF (s0 : Int) x.n (xfA s0 xs) (fun _ => 0)⟩),
  decide (0 ≤ x.n ∧ x.n ≤ x.n + 64 ∧ x.n + 64 = ((x.n + 64).toNat : Int) ∧ x.n + 64 ≤ 281474976710656), decide ((x.k : Int) = x.k), decide (0 < x.n + 64 ∧ 0 ≤ x.n ∧ x.n ≤ x.n + 64), true]
def condsB2 (s0 : Nat) (xs : List Int) (x : OutS) : List Bool := [decide (0 ≤ (x.k : Int) + 1 - 1 ∧ (x.k : Int) + 1 - 1 < (x.k : Int) + 1), decide ((x.k : Int) + 1 - 1 = ((x.k + 1 : Nat) : Int) - 1), decide (0 < x.n + 64 ∧ 0 ≤ x.n ∧ x.n ≤ x.n + 64), decide (((0 : Nat) : Int) ≤ 0 ∧ 0 + (x.n - 0) ≤ ((0 : Nat) : Int) + ((x.n + 64).toNat : Int) ∧ x.n - 0 ≤ 281474976710656), decide ((s0 : Int) ≤ (s0 : Int) ∧ (s0 : Int) + x.n ≤ (s0 : Int) + (xs.length : Int) ∧ x.n ≤ 281474976710656),
  okStR (backSp 500 140737488351232 3001 5000) (backCn 500 140737488351232 3001 (backBB s0 xs (s0 : Int) x.n)), decide ((0 : Int) ≤ 0 ∧ 0 ≤ x.n + 64 ∧ x.n + 64 = ((x.n + 64).toNat : Int) ∧ x.n + 64 ≤ 281474976710656 ∧ 500 ≤ x.n ∧ x.n ≤ 140737488351232), decide ((s0 : Int) ≤ (s0 : Int) ∧ (s0 : Int) + x.n ≤ (s0 : Int) + (xs.length : Int))]
def condsB3 (s0 : Nat) (xs : List Int) (x : OutS) : List Bool := [(backBB s0 xs (s0 : Int) x.n).ok && backAll (backBB s0 xs (s0 : Int) x.n)]
def endB (x : OutS) : Bool := decide ((x.k : Int) + 1 = ((x.k + 1 : Nat) : Int)) && okStM outSpB (outCnB (nextB x))
theorem outB_in (s0 : Nat) (xs : List Int) (n clo org : Int) (up a : Bool) (i : Int) (k : Nat) (N nclo : Int) (rn : Nat) (f : Nat → Int) (x : OutS) (hx : x = ⟨pl s0, n, clo, org, up, a, i, k, N, nclo, rn, f⟩) : pathT (List.replicate 22 true) (outTB s0 xs ⟨pl s0, n, clo, org, up, a, i, k, N, nclo, rn, f⟩) =
    some (condsB s0 xs x ++ [decide (0 ≤ i ∧ i < n - 0 ∧ 0 ≤ org ∧ org ≤ 65535 ∧ org + (n - 0) ≤ 65536)] ++ condsB2 s0 xs x ++ [decide (0 ≤ i ∧ i < n ∧ 0 ≤ org ∧ org ≤ 65535 ∧ org + n ≤ 65536)] ++ condsB3 s0 xs x ++ [insEq (x1A n org i (gB' s0 xs s0 n)) (x2A s0 xs s0 n org i)] ++ [endB x],
      (.normal, outCnB (nextB x))) := by subst hx; kernel_rfl
theorem outB_out (s0 : Nat) (xs : List Int) (n clo org : Int) (up a : Bool) (i : Int) (k : Nat) (N nclo : Int) (rn : Nat) (f : Nat → Int) (x : OutS) (hx : x = ⟨pl s0, n, clo, org, up, a, i, k, N, nclo, rn, f⟩) : pathT (List.replicate 9 true ++ [false] ++ List.replicate 8 true ++ [false] ++ List.replicate 2 true) (outTB s0 xs ⟨pl s0, n, clo, org, up, a, i, k, N, nclo, rn, f⟩) =
    some (condsB s0 xs x ++ [decide (0 ≤ i ∧ i < n - 0 ∧ 0 ≤ org ∧ org ≤ 65535 ∧ org + (n - 0) ≤ 65536)] ++ condsB2 s0 xs x ++ [decide (0 ≤ i ∧ i < n ∧ 0 ≤ org ∧ org ≤ 65535 ∧ org + n ≤ 65536)] ++ condsB3 s0 xs x ++ [endB x],
      (.normal, outCnB (nextB x))) := by subst hx; kernel_rfl
theorem outB_end (s0 : Nat) (xs : List Int) (n clo org : Int) (up a : Bool) (i : Int) (k : Nat) (N nclo : Int) (rn : Nat) (f : Nat → Int) (x : OutS) (hx : x = ⟨pl s0, n, clo, org, up, a, i, k, N, nclo, rn, f⟩) : pathT [false, true] (outTB s0 xs ⟨pl s0, n, clo, org, up, a, i, k, N, nclo, rn, f⟩) =
    some ([decide (i < n), decide ((k : Int) = k) && okStM outSpB (outCnB x)], (.exit 0, outCnB x)) := by subst hx; kernel_rfl
end Go.Proofs.YtlmacdfbdhpljaaGreatDoor

namespace Go.Proofs.YtlmacdfbdhpljaaGreatDoor
open Go.Ev Go.Ev.Tr Go.Proofs
set_option maxRecDepth 1000000
theorem bytesEq_refl : ∀ l : List UInt8, bytesEq l l = true
  | [] => rfl
  | a :: l => by
    simp only [bytesEq, Nat.beq_refl, bytesEq_refl l, Bool.and_self]
theorem bytesEqS_refl : ∀ l : List UInt8, bytesEqS l l = true
  | [] => rfl
  | a :: l => by
    simp only [bytesEqS, Nat.beq_refl, bytesEqS_refl l, Bool.and_self]
theorem insEq_refl (a : Ins) : insEq a a = true := by
  simp only [insEq, bytesEqS_refl, beq_self_eq_true, Bool.and_self]
theorem bytesAt_cp {s n N : Int} {xf f : Nat → Int} : bytesAt (fillF n N (cpF s n xf f)) 0 (n - 0).toNat = bytesAt xf s.toNat n.toNat := by
  unfold bytesAt
  rw [show (n - 0).toNat = n.toNat by omega]
  apply List.map_congr_left
  intro j hj
  have hj := List.mem_range.1 hj
  have : fillF n N (cpF s n xf f) (0 + j) = xf (s.toNat + j) := by
    rw [Nat.zero_add]
    unfold fillF cpF
    rw [if_neg (by omega), if_pos hj]
  rw [this]
theorem gB_cp {s n N : Int} {xf f : Nat → Int} (m : Nat) : gB (fun j => fillF n N (cpF s n xf f) (0 + j)) (n - 0) m = gB (fun j => xf (s.toNat + j)) n m := by
  unfold gB
  rw [show n - 0 = n by omega]
  by_cases h : (m : Int) < n
  · rw [if_pos h, if_pos h]
    simp only [Nat.zero_add]
    unfold fillF cpF
    rw [if_neg (by omega), if_pos (by omega)]
  · rw [if_neg h, if_neg h]
theorem x1_x2 {s0 : Nat} {xs : List Int} {s n N org i : Int} {f : Nat → Int} : x1A n org i (fillF n N (cpF s n (xfA s0 xs) f)) = x2A s0 xs s n org i := by
  unfold x1A x2A
  rw [gB_cp, gB_cp, gB_cp, show n - 0 - i = n - i by omega]
theorem all_true {l : List Bool} {n : Nat} (hn : l.length = n) (h : ∀ b ∈ l, b = true) : l = List.replicate n true := by
  subst hn; exact List.eq_replicate_of_mem h
def InO (s0 : Nat) (xs : List Int) (x : OutS) : Prop := 0 ≤ x.n ∧ x.n ≤ 140737488351232 ∧ 0 ≤ x.i ∧ x.i ≤ x.n ∧ 1 ≤ (x.k : Int) ∧ (x.k : Int) + (x.n - x.i) ≤ 4194303 ∧ x.n ≤ (xs.length : Int) ∧ -9223372036854775808 ≤ x.org ∧ x.org ≤ 9223372036854775807 ∧ (x.s.n = (s0 : Int) ∧ x.s.lo = -1 ∧ x.s.hi = (s0 : Int))
instance (s0 : Nat) (xs : List Int) (x : OutS) : Decidable (InO s0 xs x) := by unfold InO; infer_instance
theorem InO.pl {s0 : Nat} {xs : List Int} {x : OutS} (h : InO s0 xs x) : x.s = pl s0 := by
  obtain ⟨h1, h2, h3⟩ := h.2.2.2.2.2.2.2.2.2
  cases hx : x.s with
  | mk a b c =>
    rw [hx] at h1 h2 h3
    simp only at h1 h2 h3
    subst h1; subst h2; subst h3; rfl
def InA (x : OutS) : Prop := x.n ≤ 499 ∧ x.N = x.n + 64 ∧ x.n + 64 ≤ x.nclo ∧ (x.rn : Int) = x.n + 64
instance (x : OutS) : Decidable (InA x) := by unfold InA; infer_instance
/-! ### up to 499 bytes -/
theorem condsA_t {s0 : Nat} {xs : List Int} {x : OutS} (h : InO s0 xs x) (hA : InA x) (ha : x.a = true) (hi : x.i < x.n) : condsA s0 xs x = List.replicate 15 true := by
  obtain ⟨h1, h2, h3, h4, h5, h6, h7, h8, h9, h10⟩ := h
  obtain ⟨a1, a2, a3, a4⟩ := hA
  apply all_true rfl
  simp only [condsA, List.mem_cons, List.not_mem_nil, or_false, forall_eq_or_imp, forall_eq, okStR, fillSp, fillCn, okTsR, okBsR, okKR, okCsR, Bool.and_true, Bool.true_and, Bool.and_eq_true, decide_eq_true_eq]
  refine ⟨hi, ha, trivial, ?_⟩
  and_intros <;> first | omega | exact True.intro | exact (rfl : true = true) | exact decide_eq_true (by omega)
theorem condsA2_t {s0 : Nat} {xs : List Int} {x : OutS} (h : InO s0 xs x) (hA : InA x) (g : Nat → Int) : condsA2 s0 xs x g = List.replicate 8 true := by
  obtain ⟨h1, h2, h3, h4, h5, h6, h7, h8, h9, h10⟩ := h
  obtain ⟨a1, a2, a3, a4⟩ := hA
  apply all_true rfl
  simp only [condsA2, List.mem_cons, List.not_mem_nil, or_false, forall_eq_or_imp, forall_eq, okStR, backSp, backCn, backB', okTsR, okBsR, okKR, okCsR, Bool.and_true, Bool.true_and, Bool.and_eq_true, decide_eq_true_eq]
  and_intros <;> first | omega | exact True.intro | exact (rfl : true = true) | exact decide_eq_true (by omega)
theorem condsA3_t {s0 : Nat} {xs : List Int} {x : OutS} (hA : InA x) : condsA3 s0 xs x (gA s0 xs s0 x.n x.f) = [true] := by
  obtain ⟨a1, a2, a3, a4⟩ := hA
  unfold condsA3
  have e1 : (backB' s0 xs s0 x.n x.nclo x.rn (gA s0 xs s0 x.n x.f)).ok = true := by
    show bytesEq (bytesAt (gA s0 xs s0 x.n x.f) 0 (x.n - 0).toNat) (bytesAt (xfA s0 xs) (s0 : Int).toNat x.n.toNat) = true
    unfold gA
    rw [bytesAt_cp, bytesEq_refl]
  have e2 : backAll (backB' s0 xs s0 x.n x.nclo x.rn (gA s0 xs s0 x.n x.f)) = true := by
    rw [backAll_iff]
    intro j hj _ hn
    have hj : j < x.rn := hj
    have hn : x.n ≤ (j : Int) := hn
    show gA s0 xs s0 x.n x.f j = 165
    unfold gA fillF
    rw [if_pos (by omega)]
  rw [e1, e2]; rfl
theorem endA_t {s0 : Nat} {xs : List Int} {x : OutS} (h : InO s0 xs x) (hi : x.i < x.n) : endA s0 xs x = true := by
  obtain ⟨h1, h2, h3, h4, h5, h6, h7, h8, h9, h10⟩ := h
  have e : ((x.k : Int) + 1 = ((x.k + 1 : Nat) : Int)) := by omega
  simp only [endA, okStM, outSpA, outCnA, nextA, outTs, xs12, nul12, okStR, okTsR, okBsR, okKR, okCsR, lenMD, Bool.and_true, Bool.true_and, Bool.and_eq_true, decide_eq_true_eq]
  and_intros <;> first | omega | exact True.intro | exact decide_eq_true (by omega)
def finA (s0 : Nat) (xs : List Int) (x : OutS) : T (LX × OutS) := .br (x.a && (decide (InO s0 xs x) && decide (InA x))) (.ret (.nrm, { x with i := x.n, k := x.k + (x.n - x.i).toNat, f := if x.i < x.n then ninF 0 (x.n + 64) x.f else x.f })) .fail
theorem ninF_next {s0 : Nat} {xs : List Int} {s n : Int} {f : Nat → Int} : ninF 0 (n + 64 - 0) (gA s0 xs s n f) = ninF 0 (n + 64) (gA s0 xs s n f) := by
  rw [show n + 64 - 0 = n + 64 by omega]
theorem ninF_gA {s0 : Nat} {xs : List Int} {s n : Int} {f : Nat → Int} (_ : 0 ≤ n) : ninF 0 (n + 64) (gA s0 xs s n f) = ninF 0 (n + 64) f := by
  funext j
  unfold ninF gA fillF cpF
  by_cases h1 : 0 ≤ (j : Int) ∧ (j : Int) < n + 64
  · rw [if_pos h1, if_pos h1]
  · rw [if_neg h1, if_neg h1, if_neg (by omega), if_neg (by omega)]
theorem ninF_idem {n : Int} {f : Nat → Int} : ninF 0 n (ninF 0 n f) = ninF 0 n f := by
  funext j
  unfold ninF
  by_cases h1 : 0 ≤ (j : Int) ∧ (j : Int) < n
  · rw [if_pos h1, if_pos h1]
  · rw [if_neg h1, if_neg h1]
theorem ite_same {α : Type} (c : Prop) [Decidable c] {u v : α} (h : u = v) : (if c then u else v) = v := by
  split
  · exact h
  · rfl
theorem leadsA (s0 : Nat) (xs : List Int) : LeadsM (envA smH) (roG s0 xs) (callA smH) (ntOf 5) outSpA (withHooks (fun _ => none) (loopOf 5 0)) 0 outCnA (finA s0 xs) (fun x => (x.n - x.i).toNat) := by
  rintro ⟨s, n, clo, org, up, a, i, k, N, nclo, rn, f⟩ r hr
  unfold finA at hr
  simp only [T.run] at hr
  cases hc : (a && (decide (InO s0 xs ⟨s, n, clo, org, up, a, i, k, N, nclo, rn, f⟩) && decide (InA ⟨s, n, clo, org, up, a, i, k, N, nclo, rn, f⟩))) with
  | false => rw [hc] at hr; cases hr
  | true =>
    rw [hc] at hr
    simp only [cond_true, Option.some.injEq] at hr
    subst hr
    simp only [Bool.and_eq_true, decide_eq_true_eq] at hc
    obtain ⟨ha, hO, hA⟩ := hc
    have hpl : s = pl s0 := hO.pl
    subst hpl
    have hO' := hO
    have hA' := hA
    obtain ⟨h1, h2, h3, h4, h5, h6, h7, h8, h9, h10⟩ := hO
    obtain ⟨a1, a2, a3, a4⟩ := hA
    simp only at h1 h2 h3 h4 h5 h6 h7 h8 h9 a1 a2 a3 a4
    by_cases hi : i < n
    · left
      refine ⟨nextA s0 xs ⟨pl s0, n, clo, org, up, a, i, k, N, nclo, rn, f⟩, ?_, ?_, ?_⟩
      · by_cases hv : 0 ≤ org ∧ org ≤ 65535 ∧ org + n ≤ 65536
        · refine pathT_run (outA_in s0 xs n clo org up a i k N nclo rn f _ rfl) ?_
          rw [condsA_t hO' hA' ha hi, condsA2_t hO' hA', show condsA3 s0 xs ⟨pl s0, n, clo, org, up, a, i, k, N, nclo, rn, f⟩ (gA s0 xs s0 n f) = [true] from condsA3_t (x := ⟨pl s0, n, clo, org, up, a, i, k, N, nclo, rn, f⟩) hA', endA_t hO' hi, decide_eq_true (show 0 ≤ i ∧ i < n - 0 ∧ 0 ≤ org ∧ org ≤ 65535 ∧ org + (n - 0) ≤ 65536 by omega), decide_eq_true (show 0 ≤ i ∧ i < n ∧ 0 ≤ org ∧ org ≤ 65535 ∧ org + n ≤ 65536 by omega)]
          unfold gA
          rw [x1_x2, insEq_refl]
          rfl
        · refine pathT_run (outA_out s0 xs n clo org up a i k N nclo rn f _ rfl) ?_
          rw [condsA_t hO' hA' ha hi, condsA2_t hO' hA', show condsA3 s0 xs ⟨pl s0, n, clo, org, up, a, i, k, N, nclo, rn, f⟩ (gA s0 xs s0 n f) = [true] from condsA3_t (x := ⟨pl s0, n, clo, org, up, a, i, k, N, nclo, rn, f⟩) hA', endA_t hO' hi, decide_eq_false (show ¬ (0 ≤ i ∧ i < n - 0 ∧ 0 ≤ org ∧ org ≤ 65535 ∧ org + (n - 0) ≤ 65536) by omega), decide_eq_false (show ¬ (0 ≤ i ∧ i < n ∧ 0 ≤ org ∧ org ≤ 65535 ∧ org + n ≤ 65536) by omega)]
          rfl
      · have cO : InO s0 xs (nextA s0 xs ⟨pl s0, n, clo, org, up, a, i, k, N, nclo, rn, f⟩) := by
          unfold InO nextA
          simp only
          refine ⟨?_, ?_, ?_, ?_, ?_, ?_, ?_, ?_, ?_, rfl, rfl, rfl⟩ <;> omega
        have cA : InA (nextA s0 xs ⟨pl s0, n, clo, org, up, a, i, k, N, nclo, rn, f⟩) := by
          unfold InA nextA
          simp only
          omega
        unfold finA
        simp only [T.run]
        rw [decide_eq_true cO, decide_eq_true cA]
        show some _ = some _
        simp only [nextA, Option.some.injEq, Prod.mk.injEq, true_and, OutS.mk.injEq]
        subst ha
        and_intros <;> first | trivial | omega | skip
        rw [if_pos hi, ninF_next, ninF_gA h1]
        exact ite_same _ ninF_idem
      · show (n - (i + 1)).toNat < (n - i).toNat
        omega
    · right; left
      refine ⟨?_, rfl⟩
      have e : i = n := by omega
      subst e
      have fe : okStM outSpA (outCnA ⟨pl s0, i, clo, org, up, a, i, k, N, nclo, rn, f⟩) = true := by
        simp only [okStM, outSpA, outCnA, outTs, xs12, nul12, okStR, okTsR, okBsR, okKR, okCsR, lenMD, Bool.and_true, Bool.true_and, Bool.and_eq_true, decide_eq_true_eq]
        and_intros <;> first | omega | exact True.intro | exact (rfl : true = true) | exact decide_eq_true (by omega)
      have := pathT_run (outA_end s0 xs i clo org up a i k N nclo rn f _ rfl) (by rw [fe, decide_eq_false hi, decide_eq_true rfl]; rfl)
      rw [if_neg hi, show k + (i - i).toNat = k by omega]
      exact this
/-! ### more -/
theorem condsB_t {s0 : Nat} {xs : List Int} {x : OutS} (h : InO s0 xs x) (ha : x.a = true) (hi : x.i < x.n) : condsB s0 xs x = List.replicate 9 true := by
  obtain ⟨h1, h2, h3, h4, h5, h6, h7, h8, h9, h10⟩ := h
  apply all_true rfl
  simp only [condsB, List.mem_cons, List.not_mem_nil, or_false, forall_eq_or_imp, forall_eq, okStR, fillSp, fillCn, okTsR, okBsR, okKR, okCsR, Bool.and_true, Bool.true_and, Bool.and_eq_true, decide_eq_true_eq]
  refine ⟨hi, ha, trivial, ?_⟩
  and_intros <;> first | omega | exact True.intro | exact (rfl : true = true) | exact decide_eq_true (by omega)
theorem condsB2_t {s0 : Nat} {xs : List Int} {x : OutS} (h : InO s0 xs x) (hB : 500 ≤ x.n) : condsB2 s0 xs x = List.replicate 8 true := by
  obtain ⟨h1, h2, h3, h4, h5, h6, h7, h8, h9, h10⟩ := h
  apply all_true rfl
  simp only [condsB2, List.mem_cons, List.not_mem_nil, or_false, forall_eq_or_imp, forall_eq, okStR, backSp, backCn, backBB, okTsR, okBsR, okKR, okCsR, Bool.and_true, Bool.true_and, Bool.and_eq_true, decide_eq_true_eq]
  and_intros <;> first | omega | exact True.intro | exact (rfl : true = true) | exact decide_eq_true (by omega)
theorem condsB3_t {s0 : Nat} {xs : List Int} {x : OutS} : condsB3 s0 xs x = [true] := by
  unfold condsB3
  have e1 : (backBB s0 xs s0 x.n).ok = true := by
    show bytesEq (bytesAt (gB' s0 xs s0 x.n) 0 (x.n - 0).toNat) (bytesAt (xfA s0 xs) (s0 : Int).toNat x.n.toNat) = true
    unfold gB'
    rw [bytesAt_cp, bytesEq_refl]
  have e2 : backAll (backBB s0 xs s0 x.n) = true := by
    rw [backAll_iff]
    intro j hj _ hn
    have hj : j < (x.n + 64).toNat := hj
    have hn : x.n ≤ (j : Int) := hn
    show gB' s0 xs s0 x.n j = 165
    unfold gB' fillF
    rw [if_pos (by omega)]
  rw [e1, e2]; rfl
theorem endB_t {s0 : Nat} {xs : List Int} {x : OutS} (h : InO s0 xs x) (hi : x.i < x.n) : endB x = true := by
  obtain ⟨h1, h2, h3, h4, h5, h6, h7, h8, h9, h10⟩ := h
  simp only [endB, okStM, outSpB, outCnB, nextB, outTs, xs12, nul12, okStR, okTsR, okBsR, okKR, okCsR, lenMD, Bool.and_true, Bool.true_and, Bool.and_eq_true, decide_eq_true_eq]
  and_intros <;> first | omega | exact True.intro | exact decide_eq_true (by omega)
def finB (s0 : Nat) (xs : List Int) (x : OutS) : T (LX × OutS) := .br (x.a && (decide (InO s0 xs x) && decide (500 ≤ x.n))) (.ret (.nrm, { x with i := x.n, k := x.k + (x.n - x.i).toNat })) .fail
theorem leadsB (s0 : Nat) (xs : List Int) : LeadsM (envA smH) (roG s0 xs) (callA smH) (ntOf 5) outSpB (withHooks (fun _ => none) (loopOf 5 0)) 0 outCnB (finB s0 xs) (fun x => (x.n - x.i).toNat) := by
  rintro ⟨s, n, clo, org, up, a, i, k, N, nclo, rn, f⟩ r hr
  unfold finB at hr
  simp only [T.run] at hr
  cases hc : (a && (decide (InO s0 xs ⟨s, n, clo, org, up, a, i, k, N, nclo, rn, f⟩) && decide (500 ≤ n))) with
  | false => rw [hc] at hr; cases hr
  | true =>
    rw [hc] at hr
    simp only [cond_true, Option.some.injEq] at hr
    subst hr
    simp only [Bool.and_eq_true, decide_eq_true_eq] at hc
    obtain ⟨ha, hO, hB⟩ := hc
    have hpl : s = pl s0 := hO.pl
    subst hpl
    have hO' := hO
    obtain ⟨h1, h2, h3, h4, h5, h6, h7, h8, h9, h10⟩ := hO
    simp only at h1 h2 h3 h4 h5 h6 h7 h8 h9
    by_cases hi : i < n
    · left
      refine ⟨nextB ⟨pl s0, n, clo, org, up, a, i, k, N, nclo, rn, f⟩, ?_, ?_, ?_⟩
      · by_cases hv : 0 ≤ org ∧ org ≤ 65535 ∧ org + n ≤ 65536
        · refine pathT_run (outB_in s0 xs n clo org up a i k N nclo rn f _ rfl) ?_
          rw [condsB_t hO' ha hi, condsB2_t hO' hB, condsB3_t, endB_t hO' hi, decide_eq_true (show 0 ≤ i ∧ i < n - 0 ∧ 0 ≤ org ∧ org ≤ 65535 ∧ org + (n - 0) ≤ 65536 by omega), decide_eq_true (show 0 ≤ i ∧ i < n ∧ 0 ≤ org ∧ org ≤ 65535 ∧ org + n ≤ 65536 by omega)]
          unfold gB'
          rw [x1_x2, insEq_refl]
          rfl
        · refine pathT_run (outB_out s0 xs n clo org up a i k N nclo rn f _ rfl) ?_
          rw [condsB_t hO' ha hi, condsB2_t hO' hB, condsB3_t, endB_t hO' hi, decide_eq_false (show ¬ (0 ≤ i ∧ i < n - 0 ∧ 0 ≤ org ∧ org ≤ 65535 ∧ org + (n - 0) ≤ 65536) by omega), decide_eq_false (show ¬ (0 ≤ i ∧ i < n ∧ 0 ≤ org ∧ org ≤ 65535 ∧ org + n ≤ 65536) by omega)]
          rfl
      · have cO : InO s0 xs (nextB ⟨pl s0, n, clo, org, up, a, i, k, N, nclo, rn, f⟩) := by
          unfold InO nextB
          simp only
          refine ⟨?_, ?_, ?_, ?_, ?_, ?_, ?_, ?_, ?_, rfl, rfl, rfl⟩ <;> omega
        unfold finB
        simp only [T.run]
        rw [decide_eq_true cO, show decide (500 ≤ (nextB ⟨pl s0, n, clo, org, up, a, i, k, N, nclo, rn, f⟩).n) = true from decide_eq_true hB]
        show some _ = some _
        simp only [nextB, Option.some.injEq, Prod.mk.injEq, true_and, OutS.mk.injEq]
        subst ha
        and_intros <;> first | omega | exact True.intro | exact (rfl : true = true) | exact decide_eq_true (by omega)
      · show (n - (i + 1)).toNat < (n - i).toNat
        omega
    · right; left
      refine ⟨?_, rfl⟩
      have e : i = n := by omega
      subst e
      have fe : okStM outSpB (outCnB ⟨pl s0, i, clo, org, up, a, i, k, N, nclo, rn, f⟩) = true := by
        simp only [okStM, outSpB, outCnB, outTs, xs12, nul12, okStR, okTsR, okBsR, okKR, okCsR, lenMD, Bool.and_true, Bool.true_and, Bool.and_eq_true, decide_eq_true_eq]
        and_intros <;> first | omega | exact True.intro | exact (rfl : true = true) | exact decide_eq_true (by omega)
      have := pathT_run (outB_end s0 xs i clo org up a i k N nclo rn f _ rfl) (by rw [fe, decide_eq_false hi, decide_eq_true rfl]; rfl)
      rw [show k + (i - i).toNat = k by omega]
      exact this
/-! ### hooks -/
def outParA : SDM → Option OutS
  | (([.v (.slice b1 e1 o1 l1 c1 d1), .i org, .b up, .nul, .b a, .i i], [[.nul, .nul, .nul, .nul, .nul, .nul, .nul, .nul, .nul, .nul, .nul, .nul], [.r rn f]]), .last k (.slice b2 e2 o2 l2 c2 d2)) => match (Nat.beq b1 6 && Nat.beq e1 1 && bdI l1 0 499 && ieq d1 magicS) && (Nat.beq b2 8 && Nat.beq e2 1 && eqI o2 0 0 0 && bdI l2 64 563 && ieq d2 magicS) with
    | true => some ⟨o1, l1.n, c1, org, up, a, i, k, l2.n, c2, rn, f⟩
    | false => none
  | _ => none
theorem outParA_eq (d : SDM) (x : OutS) (h : outParA d = some x) : d = outCnA x := by
  unfold outParA at h
  split at h <;> try contradiction
  split at h <;> try contradiction
  rename_i hc
  injection h with h; subst h
  simp only [Bool.and_eq_true, ieq_iff] at hc
  obtain ⟨⟨⟨⟨a3, a4⟩, a6⟩, a7⟩, ⟨⟨⟨a8, a9⟩, a10⟩, a11⟩, a12⟩ := hc
  have a3 := Nat.eq_of_beq_eq_true a3
  have a4 := Nat.eq_of_beq_eq_true a4
  have a8 := Nat.eq_of_beq_eq_true a8
  have a9 := Nat.eq_of_beq_eq_true a9
  have a10 := eqI_eq a10
  have a6 := bdI_eq a6
  have a11 := bdI_eq a11
  subst a3; subst a4; subst a8; subst a9; subst a10; subst a7; subst a12
  unfold outCnA rowA argV
  simp only
  rw [← a6, ← a11]
  rfl
def outParB : SDM → Option OutS
  | (([.v (.slice b1 e1 o1 l1 c1 d1), .i org, .b up, .nul, .b a, .i i], [[.nul, .nul, .nul, .nul, .nul, .nul, .nul, .nul, .nul, .nul, .nul, .nul]]), .last k .nilp) => match (Nat.beq b1 6 && Nat.beq e1 1 && bdI l1 500 140737488351232 && ieq d1 magicS) with
    | true => some ⟨o1, l1.n, c1, org, up, a, i, k, 0, 0, 0, fun _ => 0⟩
    | false => none
  | _ => none
theorem outParB_eq (d : SDM) (x : OutS) (h : outParB d = some x) : d = outCnB x := by
  unfold outParB at h
  split at h <;> try contradiction
  split at h <;> try contradiction
  rename_i hc
  injection h with h; subst h
  simp only [Bool.and_eq_true, ieq_iff] at hc
  obtain ⟨⟨⟨a3, a4⟩, a6⟩, a7⟩ := hc
  have a3 := Nat.eq_of_beq_eq_true a3
  have a4 := Nat.eq_of_beq_eq_true a4
  have a6 := bdI_eq a6
  subst a3; subst a4; subst a7
  unfold outCnB argV
  simp only
  rw [← a6]
  rfl
def outHkA (s0 : Nat) (xs : List Int) : St → T (X × St) := loopFM outSpA outParA outCnA (finA s0 xs)
def outHkB (s0 : Nat) (xs : List Int) : St → T (X × St) := loopFM outSpB outParB outCnB (finB s0 xs)
theorem smH0_ok : ∀ f s, smH0 f = some s → SumAt f s := sm_cons (sm_cons (sm_cons sm1_ok back_at) lend_at) awake_at
theorem smH_ok (h79 : SumAt 79 insSum) : ∀ f s, smH f = some s → SumAt f s := sm_cons (sm_cons smH0_ok (dis_at h79 dis47)) (dis_at h79 dis21)
theorem roG_F {s0 : Nat} {xs : List Int} {n : Nat} (hn : 7 ≤ n) : RoF n (roG s0 xs) := fun id b h => by
  unfold roG at h
  split at h
  · rename_i e
    have := Nat.eq_of_beq_eq_true e
    injection h with h; subst h
    exact ⟨by omega, by rw [pow10L]; kernel_rfl⟩
  · split at h
    · rename_i e
      have := Nat.eq_of_beq_eq_true e
      injection h with h; subst h
      exact ⟨by omega, rfl⟩
    · cases h
theorem loop5 : blocksOf 0 (bodyOf 5) = [.loop (loopOf 5 0)] := by kernel_rfl
theorem outHkA_ok (h79 : SumAt 79 insSum) (s0 : Nat) (xs : List Int) : ∀ w0 F, HookOK Tryz.prog (envA smH) w0 F (roG s0 xs) (ntOf 5) (.block 0 (.loop (loopOf 5 0))) (outHkA s0 xs) := fun w0 F => by
  have := loopF_okM (envAOK smH) (callAOK (smH_ok h79)) (b := withHooks (fun _ => none) (loopOf 5 0)) (id := 0) (sm := outSpA) (roG_F (by decide)) (by decide) (fun w0 F => withHooks_ok _ fun _ _ _ h _ => by cases h) outParA_eq (leadsA s0 xs) w0 F
  rw [withHooks_erase] at this
  exact this
theorem outHkB_ok (h79 : SumAt 79 insSum) (s0 : Nat) (xs : List Int) : ∀ w0 F, HookOK Tryz.prog (envA smH) w0 F (roG s0 xs) (ntOf 5) (.block 0 (.loop (loopOf 5 0))) (outHkB s0 xs) := fun w0 F => by
  have := loopF_okM (envAOK smH) (callAOK (smH_ok h79)) (b := withHooks (fun _ => none) (loopOf 5 0)) (id := 0) (sm := outSpB) (roG_F (by decide)) (by decide) (fun w0 F => withHooks_ok _ fun _ _ _ h _ => by cases h) outParB_eq (leadsB s0 xs) w0 F
  rw [withHooks_erase] at this
  exact this
end Go.Proofs.YtlmacdfbdhpljaaGreatDoor

namespace Go.Proofs.YtlmacdfbdhpljaaGreatDoor
open Go.Ev Go.Ev.Tr Go.Proofs
set_option maxRecDepth 1000000
def i64V (n : Int) : V := .int .i64 ⟨n, -9223372036854775808, 9223372036854775807⟩
noncomputable def lawTA (s0 : Nat) (xs : List Int) (n clo at' org : Int) : T (AEnd × Hp) := bodyF2 (envA smH) 10000 (callA smH) (roG s0 xs) (fnOf 5) (withHooks (hook1 0 (outHkA s0 xs)) (bodyOf 5)) [argV 0 499 (pl s0) n clo, i64V at', i64V org] (startHp 7 1000000)
noncomputable def lawTB (s0 : Nat) (xs : List Int) (n clo at' org : Int) : T (AEnd × Hp) := bodyF2 (envA smH) 10000 (callA smH) (roG s0 xs) (fnOf 5) (withHooks (hook1 0 (outHkB s0 xs)) (bodyOf 5)) [argV 500 140737488351232 (pl s0) n clo, i64V at', i64V org] (startHp 7 1000000)
/-- An end that is true. -/
def viewH (r : AEnd × Hp) : Bool := match r.1 with
  | .ret (.bool b) => b
  | .ret (.sbool b) => b
  | _ => false
noncomputable def viewA (s0 : Nat) (xs : List Int) (n clo at' org : Int) : T Bool := (lawTA s0 xs n clo at' org).bind fun r => .ret (viewH r)
noncomputable def viewB (s0 : Nat) (xs : List Int) (n clo at' org : Int) : T Bool := (lawTB s0 xs n clo at' org).bind fun r => .ret (viewH r)
def x0A (s0 : Nat) (xs : List Int) (n clo org : Int) : OutS := ⟨pl s0, n, clo, org, true, true, 0, 1, n + 64, n + 64, (n + 64).toNat, ninF 0 (n + 64) (gB' s0 xs s0 n)⟩
def x0B (s0 : Nat) (n clo org : Int) : OutS := ⟨pl s0, n, clo, org, true, true, 0, 1, 0, 0, 0, fun _ => 0⟩
def cL1 (lo hi : Int) (s0 : Nat) (xs : List Int) (n clo : Int) : List Bool := [decide (n + 64 = n + 64), decide (n ≤ n + 64 ∧ (s0 : Int) ≤ (s0 : Int) ∧ (s0 : Int) + n ≤ (s0 : Int) + (xs.length : Int) ∧ n + 64 ≤ ((n + 64).toNat : Int)), okStR (fillSp 8 1000) (fillCn lo hi 8 ⟨pl s0, n, clo, n + 64, n + 64, n, (n + 64).toNat, cpF s0 n (xfA s0 xs) (fun _ => 0)⟩),
  decide (0 ≤ n ∧ n ≤ n + 64 ∧ n + 64 = ((n + 64).toNat : Int) ∧ n + 64 ≤ 281474976710656), decide (0 < n + 64 ∧ 0 ≤ n ∧ n ≤ n + 64), true]
def cL2 (lo hi : Int) (s0 : Nat) (xs : List Int) (n : Int) : List Bool := [decide (0 < n + 64 ∧ 0 ≤ n ∧ n ≤ n + 64), decide (((0 : Nat) : Int) ≤ 0 ∧ 0 + (n - 0) ≤ ((0 : Nat) : Int) + ((n + 64).toNat : Int) ∧ n - 0 ≤ 281474976710656), decide ((s0 : Int) ≤ (s0 : Int) ∧ (s0 : Int) + n ≤ (s0 : Int) + (xs.length : Int) ∧ n ≤ 281474976710656),
  okStR (backSp lo hi 8 2000) (backCn lo hi 8 (backBB s0 xs s0 n)), decide ((0 : Int) ≤ 0 ∧ 0 ≤ n + 64 ∧ n + 64 = ((n + 64).toNat : Int) ∧ n + 64 ≤ 281474976710656 ∧ lo ≤ n ∧ n ≤ hi), decide ((s0 : Int) ≤ (s0 : Int) ∧ (s0 : Int) + n ≤ (s0 : Int) + (xs.length : Int))]
def cL3 (s0 : Nat) (xs : List Int) (n : Int) : List Bool := [(backBB s0 xs s0 n).ok && backAll (backBB s0 xs s0 n)]
def cA4 (s0 : Nat) (xs : List Int) (n clo org : Int) : List Bool := [decide ((1 : Int) = ((1 : Nat) : Int)) && okStM outSpA (outCnA (x0A s0 xs n clo org)), decide (InO s0 xs (x0A s0 xs n clo org)) && decide (InA (x0A s0 xs n clo org))]
def cB4 (s0 : Nat) (xs : List Int) (n clo org : Int) : List Bool := [decide ((1 : Int) = ((1 : Nat) : Int)) && okStM outSpB (outCnB (x0B s0 n clo org)), decide (InO s0 xs (x0B s0 n clo org)) && decide (500 ≤ n)]
theorem lawA_in (s0 : Nat) (xs : List Int) (n clo at' org : Int) : pathT (List.replicate 19 true) (viewA s0 xs n clo at' org) =
    some (cL1 0 499 s0 xs n clo ++ [decide (0 ≤ at' ∧ at' < n - 0 ∧ 0 ≤ org ∧ org ≤ 65535 ∧ org + (n - 0) ≤ 65536)] ++ cL2 0 499 s0 xs n ++ [decide (0 ≤ at' ∧ at' < n ∧ 0 ≤ org ∧ org ≤ 65535 ∧ org + n ≤ 65536)] ++ cL3 s0 xs n ++ [insEq (x1A n org at' (gB' s0 xs s0 n)) (x2A s0 xs s0 n org at')] ++ cA4 s0 xs n clo org ++ [true], true) := by kernel_rfl
theorem lawA_out (s0 : Nat) (xs : List Int) (n clo at' org : Int) : pathT (List.replicate 6 true ++ [false] ++ List.replicate 6 true ++ [false] ++ List.replicate 4 true) (viewA s0 xs n clo at' org) =
    some (cL1 0 499 s0 xs n clo ++ [decide (0 ≤ at' ∧ at' < n - 0 ∧ 0 ≤ org ∧ org ≤ 65535 ∧ org + (n - 0) ≤ 65536)] ++ cL2 0 499 s0 xs n ++ [decide (0 ≤ at' ∧ at' < n ∧ 0 ≤ org ∧ org ≤ 65535 ∧ org + n ≤ 65536)] ++ cL3 s0 xs n ++ cA4 s0 xs n clo org ++ [true], true) := by kernel_rfl
theorem lawB_in (s0 : Nat) (xs : List Int) (n clo at' org : Int) : pathT (List.replicate 19 true) (viewB s0 xs n clo at' org) =
    some (cL1 500 140737488351232 s0 xs n clo ++ [decide (0 ≤ at' ∧ at' < n - 0 ∧ 0 ≤ org ∧ org ≤ 65535 ∧ org + (n - 0) ≤ 65536)] ++ cL2 500 140737488351232 s0 xs n ++ [decide (0 ≤ at' ∧ at' < n ∧ 0 ≤ org ∧ org ≤ 65535 ∧ org + n ≤ 65536)] ++ cL3 s0 xs n ++ [insEq (x1A n org at' (gB' s0 xs s0 n)) (x2A s0 xs s0 n org at')] ++ cB4 s0 xs n clo org ++ [true], true) := by kernel_rfl
theorem lawB_out (s0 : Nat) (xs : List Int) (n clo at' org : Int) : pathT (List.replicate 6 true ++ [false] ++ List.replicate 6 true ++ [false] ++ List.replicate 4 true) (viewB s0 xs n clo at' org) =
    some (cL1 500 140737488351232 s0 xs n clo ++ [decide (0 ≤ at' ∧ at' < n - 0 ∧ 0 ≤ org ∧ org ≤ 65535 ∧ org + (n - 0) ≤ 65536)] ++ cL2 500 140737488351232 s0 xs n ++ [decide (0 ≤ at' ∧ at' < n ∧ 0 ≤ org ∧ org ≤ 65535 ∧ org + n ≤ 65536)] ++ cL3 s0 xs n ++ cB4 s0 xs n clo org ++ [true], true) := by kernel_rfl
/-! ### no slice at all -/
noncomputable def smZ (f : Nat) : Option Summ := match Nat.beq f 15 with
  | true => some (trueSum noArgs)
  | false => sm1 f
noncomputable def viewN (at' org : I) : T Bool := (callA smZ ro10 5 [.nils, .int .i64 at', .int .i64 org] (startHp 6 1000000)).bind fun r => .ret (viewH r)
theorem lawN1 (at' org : Int) : (viewN ⟨at', -9223372036854775808, -1⟩ ⟨org, -9223372036854775808, -1⟩).run = some true := by kernel_rfl
theorem lawN2 (at' org : Int) : (viewN ⟨at', -9223372036854775808, -1⟩ ⟨org, 0, 65535⟩).run = some true := by kernel_rfl
theorem lawN3 (at' org : Int) : (viewN ⟨at', -9223372036854775808, -1⟩ ⟨org, 65536, 9223372036854775807⟩).run = some true := by kernel_rfl
theorem lawN4 (at' org : Int) : (viewN ⟨at', 0, 9223372036854775807⟩ ⟨org, -9223372036854775808, -1⟩).run = some true := by kernel_rfl
theorem lawN5 (at' org : Int) : (viewN ⟨at', 0, 9223372036854775807⟩ ⟨org, 0, 65535⟩).run = some true := by kernel_rfl
theorem lawN6 (at' org : Int) : (viewN ⟨at', 0, 9223372036854775807⟩ ⟨org, 65536, 9223372036854775807⟩).run = some true := by kernel_rfl
end Go.Proofs.YtlmacdfbdhpljaaGreatDoor
