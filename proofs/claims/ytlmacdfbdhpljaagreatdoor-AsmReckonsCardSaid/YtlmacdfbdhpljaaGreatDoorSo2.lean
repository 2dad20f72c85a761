/- Own text: expressions of a rank. -/
import Derived.Test.YtlmacdfbdhpljaaGreatDoorSn
namespace Go.Proofs.YtlmacdfbdhpljaaGreatDoor
open Go.Ev Go.Ev.Tr Go.Proofs
set_option maxRecDepth 1000000
noncomputable def exprH (pe : Sc → Int → Bool) (e : ExM) : Nat → Option (St → T (X × St)) := hook1 0 (loopF spX parG cnG (exT pe e))
def exAns (b : Bool) (x : Sc) (d : Dv) : Option (Bool × Dv × Sc) := bif inSc x && okCs [.d] [.d d] then some (b, d, x) else none
def exQ (e : ExM) (x : Sc) (n : Int) : ExG := (x.s.length + 2, upd x (e x (n + 1)).2.2, n, .nilp, (e x (n + 1)).2.1)
theorem expr_ev (pe : Sc → Int → Bool) (e : ExM) (pa : Sc → Bool) (a : AtM) (x : Sc) (n : Int) : expr0.evM (evHook (smE pe e pa a) (exprH pe e) expr0) x n =
  bif n == 6 then
    bif inSc x && pa x then bif (a x).1 then exAns true (upd x (a x).2.2) .nilp else exAns false (upd x (a x).2.2) (a x).2.1 else none
  else bif okI6 (n + 1) && inSc x && pe x (n + 1) then
    bif (e x (n + 1)).1 then exAns true (upd x (e x (n + 1)).2.2) .nilp
    else bif okX n && (okSc (upd x (e x (n + 1)).2.2) && true) then
      bif exOk pe e (exQ e x n) then bif (exR pe e (exQ e x n)).1 then exAns true (upd x (exR pe e (exQ e x n)).2.2) .nilp else exAns false (upd x (exR pe e (exQ e x n)).2.2) (exR pe e (exQ e x n)).2.1
      else none
    else none
  else none := by kernel_rfl
/-- A result, if it lies within the text. -/
def inR (x : Sc) (b : Bool) (d : Dv) (t : Mv) : Option (Bool × Dv × Mv) := bif inSc (upd x t) then some (b, d, t) else none
/-- An expression of a rank, of what reads those of the next one, and what stands between operators. -/
def exprM (pe : Sc → Int → Bool) (e : ExM) (pa : Sc → Bool) (a : AtM) (x : Sc) (n : Int) : Option (Bool × Dv × Mv) :=
  bif n == 6 then bif pa x then bif (a x).1 then inR x true .nilp (a x).2.2 else inR x false (a x).2.1 (a x).2.2 else none
  else bif pe x (n + 1) then
    bif (e x (n + 1)).1 then inR x true .nilp (e x (n + 1)).2.2
    else bif inSc (upd x (e x (n + 1)).2.2) then
      bif exOk pe e (exQ e x n) then bif (exR pe e (exQ e x n)).1 then inR x true .nilp (exR pe e (exQ e x n)).2.2 else inR x false (exR pe e (exQ e x n)).2.1 (exR pe e (exQ e x n)).2.2 else none
    else none
  else none
def preE (m : Sc → Int → Option (Bool × Dv × Mv)) : Sc → Int → Bool := fun x n => (m x n).isSome
def getE (m : Sc → Int → Option (Bool × Dv × Mv)) : ExM := fun x n => (m x n).getD exD
theorem smE_ok {pe : Sc → Int → Bool} {e : ExM} {pa : Sc → Bool} {a : AtM} (hE : SumAt 38 (exprF pe e).sum) (hA : SumAt 74 (atF atom0 pa a).sum) : ∀ f s, smE pe e pa a f = some s → SumAt f s := sm_cons (sm_cons sm10_ok hA) hE
theorem okDv (d : Dv) : okCs [KS.d] [.d d] = true := rfl
theorem exAns_of {x : Sc} {b : Bool} {d : Dv} {t : Mv} {r : Bool × Dv × Mv} (h : inR x b d t = some r) : exAns b (upd x t) d = some (r.1, r.2.1, upd x r.2.2) := by
  unfold inR at h
  cases hc : inSc (upd x t) with
  | false => rw [hc] at h; cases h
  | true =>
    rw [hc] at h
    simp only [cond_true, Option.some.injEq] at h
    subst h
    unfold exAns
    rw [hc, okDv]; rfl
theorem expr_at {pe : Sc → Int → Bool} {e : ExM} {pa : Sc → Bool} {a : AtM} (hE : SumAt 38 (exprF pe e).sum) (hA : SumAt 74 (atF atom0 pa a).sum) : SumAt 38 (exprF (preE (exprM pe e pa a)) (getE (exprM pe e pa a))).sum :=
  SFn.sound (ev := evHook (smE pe e pa a) (exprH pe e) expr0) (mkFn_ok (evHook_at (smE_ok hE hA) (s := expr0) (by kernel_rfl) (by kernel_rfl) (hook_ok (smE_ok hE hA) (by decide) (μ := fun p => p.1) (by kernel_rfl) parG_eq (expr_step pe e pa a))) fun x n hx hn hp => by
    have hx : inSc x = true := hx
    obtain ⟨n0, n6⟩ := okI hn
    obtain ⟨r, hr⟩ := Option.isSome_iff_exists.1 hp
    refine (expr_ev pe e pa a x n).trans ?_
    show _ = some ((getE (exprM pe e pa a) x n).1, (getE (exprM pe e pa a) x n).2.1, upd x (getE (exprM pe e pa a) x n).2.2)
    have hg : getE (exprM pe e pa a) x n = r := by
      unfold getE
      rw [hr]; rfl
    rw [hg]
    unfold exprM at hr
    rw [hx]
    cases h6 : n == 6 with
    | true =>
      rw [h6] at hr
      simp only [cond_true, Bool.true_and] at hr ⊢
      cases h1 : pa x with
      | false => rw [h1] at hr; cases hr
      | true =>
        rw [h1] at hr
        simp only [cond_true] at hr ⊢
        cases h2 : (a x).1 with
        | true => rw [h2] at hr; exact exAns_of hr
        | false => rw [h2] at hr; exact exAns_of hr
    | false =>
      rw [h6] at hr
      have h6 : n ≠ 6 := by simpa using h6
      have hX : okX n = true := by
        simp only [okX, Bool.and_eq_true, decide_eq_true_eq, and_true]
        omega
      rw [okI6_of hX, hX]
      simp only [cond_false, Bool.true_and] at hr ⊢
      cases h1 : pe x (n + 1) with
      | false => rw [h1] at hr; cases hr
      | true =>
        rw [h1] at hr
        simp only [cond_true] at hr ⊢
        cases h2 : (e x (n + 1)).1 with
        | true => rw [h2] at hr; exact exAns_of hr
        | false =>
          rw [h2] at hr
          simp only [cond_false] at hr ⊢
          cases h3 : inSc (upd x (e x (n + 1)).2.2) with
          | false => rw [h3] at hr; cases hr
          | true =>
            rw [h3] at hr
            rw [okSc_of (inSc_iff.1 h3)]
            simp only [cond_true, Bool.and_true] at hr ⊢
            cases h4 : exOk pe e (exQ e x n) with
            | false => rw [h4] at hr; cases hr
            | true =>
              rw [h4] at hr
              simp only [cond_true] at hr ⊢
              cases h5 : (exR pe e (exQ e x n)).1 with
              | true => rw [h5] at hr; exact exAns_of hr
              | false => rw [h5] at hr; exact exAns_of hr)
end Go.Proofs.YtlmacdfbdhpljaaGreatDoor
