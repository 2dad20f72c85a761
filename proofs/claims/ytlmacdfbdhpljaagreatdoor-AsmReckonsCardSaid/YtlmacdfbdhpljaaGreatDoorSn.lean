/- Own text: expressions: with what they call as a variable. -/
import Derived.Test.YtlmacdfbdhpljaaGreatDoorSk
namespace Go.Proofs.YtlmacdfbdhpljaaGreatDoor
open Go.Ev Go.Ev.Tr Go.Proofs
set_option maxRecDepth 1000000
/-- What a reader moves: the place, the open brackets, the lost name. -/
abbrev Mv := Int × Int × Bool
def upd (x : Sc) (t : Mv) : Sc := ⟨x.s, t.1, t.2.1, x.full, x.scope, t.2.2⟩
abbrev ExM := Sc → Int → Bool × Dv × Mv
abbrev AtM := Sc → Bool × Dv × Mv
def expr0 : SFn0 Sc Int Dv := mkFn 38 scB (cInt .i64 0 6) cDv (false, .nilp, sc0)
def atom0 : SFn0 Sc Unit Dv := mkFn 74 scB cUnit cDv (false, .nilp, sc0)
def inside0 : SFn0 Sc Unit Dv := mkFn 116 scB cUnit cDv (false, .nilp, sc0)
def named0 : SFn0 Sc Unit Dv := mkFn 117 scB cUnit cDv (false, .nilp, sc0)
def exprF (p : Sc → Int → Bool) (e : ExM) : SFn Sc Int Dv := ⟨expr0, p, fun x n => ((e x n).1, (e x n).2.1, upd x (e x n).2.2)⟩
def atF (s : SFn0 Sc Unit Dv) (p : Sc → Bool) (e : AtM) : SFn Sc Unit Dv := ⟨s, fun x _ => p x, fun x _ => ((e x).1, (e x).2.1, upd x (e x).2.2)⟩
noncomputable def sm10 (f : Nat) : Option Summ := match Nat.beq f 119 with
  | true => some needF.sum
  | false => sm9 f
theorem sm10_ok : ∀ f s, sm10 f = some s → SumAt f s := sm_cons sm9_ok need_at
noncomputable def smE (pe : Sc → Int → Bool) (e : ExM) (pa : Sc → Bool) (a : AtM) (f : Nat) : Option Summ := match Nat.beq f 38 with
  | true => some (exprF pe e).sum
  | false => match Nat.beq f 74 with
    | true => some (atF atom0 pa a).sum
    | false => sm10 f
/-- expr's loop: the scanner; the rank; the result; the expression so far. -/
abbrev ExS := Sc × (Int × (Dv × Dv))
def cnX (p : ExS) : SD := ([.nul, .i p.2.1, .d p.2.2.1, .d p.2.2.2], [scCn p.1])
def parX : SD → Option ExS
  | ([.nul, .i a, .d b, .d c], [u]) => match scPar u with
    | some x => some (x, a, b, c)
    | none => none
  | _ => none
theorem parX_eq (d : SD) (p : ExS) (h : parX d = some p) : d = cnX p := by
  unfold parX at h
  split at h <;> try contradiction
  split at h <;> try contradiction
  rename_i x hx
  injection h with h; subst h
  rw [scPar_eq hx]; rfl
def spX : LSpec := scSp [(1, .i .i64 0 5), (4, .d), (5, .d)]
/-- A node. -/
def mkN (op : List UInt8) (place n : Int) (name : List UInt8) (kids : Dv) : Dv := .ptr [.str op, .int .i64 place, .int .i64 n, .str name, kids] 0
def okX (n : Int) : Bool := decide (0 ≤ n) && decide (n ≤ 5) && true
def okI6 (n : Int) : Bool := decide (0 ≤ n) && decide (n ≤ 6) && true
theorem okI6_of {n : Int} (h : okX n = true) : okI6 (n + 1) = true := by
  simp only [okX, Bool.and_eq_true, decide_eq_true_eq, and_true] at h
  simp only [okI6, Bool.and_eq_true, decide_eq_true_eq, and_true]
  omega
/-- Behind an operator. -/
def opX (x : Sc) (n : Int) : Sc := mv x (opI x n)
theorem expr_rd (pe : Sc → Int → Bool) (e : ExM) (pa : Sc → Bool) (a : AtM) (x : Sc) (n : Int) (d0 d : Dv) : roundS (smE pe e pa a) 38 spX (fun _ => none) 0 (cnX (x, n, d0, d)) =
  bif inSc x && true then
    bif opP x n then bif okX n && (okSc (opX x n) && true) then some (.pan slipV, cnX (opX x n, n, d0, d)) else none
    else bif bytesEq (opV x n).1 [] then bif okX n && (okSc (opX x n) && true) then some (.ret, cnX (opX x n, n, d, d)) else none
    else bif okI6 (n + 1) && inSc (opX x n) && pe (opX x n) (n + 1) then
      bif (e (opX x n) (n + 1)).1 then bif okX n && (okSc (upd x (e (opX x n) (n + 1)).2.2) && true) then some (.pan slipV, cnX (upd x (e (opX x n) (n + 1)).2.2, n, d0, d)) else none
      else bif okX n && (okSc (upd x (e (opX x n) (n + 1)).2.2) && true) then
        some (.normal, cnX (upd x (e (opX x n) (n + 1)).2.2, n, d0, mkN (opV x n).1 (opV x n).2 0 [] (.sl 1 [d, (e (opX x n) (n + 1)).2.1]))) else none
    else none
  else none := by kernel_rfl
/-- The node that an operator makes. -/
def opN (x : Sc) (n : Int) (d d' : Dv) : Dv := mkN (opV x n).1 (opV x n).2 0 [] (.sl 1 [d, d'])
/-- What comes behind a first operand. -/
def exL (pe : Sc → Int → Bool) (e : ExM) : Nat → Sc → Int → Dv → Option (Bool × Dv × Mv)
  | 0, _, _, _ => none
  | m + 1, x, n, d =>
    bif opP x n then some (true, d, (opI x n, x.o, x.lost))
    else bif bytesEq (opV x n).1 [] then some (false, d, (opI x n, x.o, x.lost))
    else bif pe (opX x n) (n + 1) && inSc (upd x (e (opX x n) (n + 1)).2.2) then
      bif (e (opX x n) (n + 1)).1 then some (true, d, (e (opX x n) (n + 1)).2.2)
      else exL pe e m (upd x (e (opX x n) (n + 1)).2.2) n (opN x n d (e (opX x n) (n + 1)).2.1)
    else none
abbrev ExG := Nat × ExS
def exD : Bool × Dv × Mv := (false, .nilp, (0, 0, false))
def exR (pe : Sc → Int → Bool) (e : ExM) (p : ExG) : Bool × Dv × Mv := (exL pe e p.1 p.2.1 p.2.2.1 p.2.2.2.2).getD exD
def exOk (pe : Sc → Int → Bool) (e : ExM) (p : ExG) : Bool := inSc p.2.1 && (okX p.2.2.1 && (exL pe e p.1 p.2.1 p.2.2.1 p.2.2.2.2).isSome)
def exT (pe : Sc → Int → Bool) (e : ExM) (p : ExG) : T (LX × ExG) :=
  .br (exOk pe e p) (.br (exR pe e p).1 (.ret (.pan slipV, (0, upd p.2.1 (exR pe e p).2.2, p.2.2.1, p.2.2.2.1, (exR pe e p).2.1))) (.ret (.ret, (0, upd p.2.1 (exR pe e p).2.2, p.2.2.1, (exR pe e p).2.1, (exR pe e p).2.1)))) .fail
def cnG (p : ExG) : SD := cnX p.2
def parG (d : SD) : Option ExG := match parX d with
  | some p => some (p.1.s.length + 2, p)
  | none => none
theorem parG_eq (d : SD) (p : ExG) (h : parG d = some p) : d = cnG p := by
  unfold parG at h
  split at h <;> try contradiction
  rename_i q hq
  injection h with h; subst h
  exact parX_eq d q hq
theorem upd_upd (x : Sc) (t u : Mv) : upd (upd x t) u = upd x u := rfl
theorem expr_step (pe : Sc → Int → Bool) (e : ExM) (pa : Sc → Bool) (a : AtM) (p : ExG) (r : LX × ExG) (h : (exT pe e p).run = some r) :
    (∃ s', roundS (smE pe e pa a) 38 spX (fun _ => none) 0 (cnG p) = some (.normal, cnG s') ∧ (exT pe e s').run = some r ∧ s'.1 < p.1) ∨ (roundS (smE pe e pa a) 38 spX (fun _ => none) 0 (cnG p) = some (.exit 0, cnG r.2) ∧ r.1 = .nrm) ∨
    (roundS (smE pe e pa a) 38 spX (fun _ => none) 0 (cnG p) = some (.ret, cnG r.2) ∧ r.1 = .ret) ∨ (∃ v, roundS (smE pe e pa a) 38 spX (fun _ => none) 0 (cnG p) = some (.pan v, cnG r.2) ∧ v.flat = true ∧ r.1 = .pan v) := by
  obtain ⟨m, x, n, d0, d⟩ := p
  unfold exT at h
  simp only [T.run] at h
  cases hok : exOk pe e (m, x, n, d0, d) with
  | false => rw [hok] at h; cases h
  | true =>
    rw [hok] at h
    simp only [cond_true] at h
    simp only [exOk, Bool.and_eq_true] at hok
    obtain ⟨hin, hx, hs⟩ := hok
    have g := inSc_iff.1 hin
    have go := opI_in g n
    have rd := expr_rd pe e pa a x n d0 d
    rw [hin, hx, okI6_of hx, show okSc (opX x n) = true from okSc_of go, show inSc (opX x n) = true from inSc_iff.2 go] at rd
    show (∃ s', roundS (smE pe e pa a) 38 spX (fun _ => none) 0 (cnX (x, n, d0, d)) = _ ∧ _ ∧ _) ∨ (roundS (smE pe e pa a) 38 spX (fun _ => none) 0 (cnX (x, n, d0, d)) = _ ∧ _) ∨ (roundS (smE pe e pa a) 38 spX (fun _ => none) 0 (cnX (x, n, d0, d)) = _ ∧ _) ∨ (∃ v, roundS (smE pe e pa a) 38 spX (fun _ => none) 0 (cnX (x, n, d0, d)) = _ ∧ _ ∧ _)
    rw [rd]
    have hR : ∀ q, exL pe e m x n d = some q → exR pe e (m, x, n, d0, d) = q := fun q hq => by
      show (exL pe e m x n d).getD exD = q
      rw [hq]; rfl
    cases m with
    | zero => cases hs
    | succ m =>
      have hs : (exL pe e (m + 1) x n d).isSome = true := hs
      unfold exL at hs hR
      cases h1 : opP x n with
      | true =>
        rw [h1] at hR
        have hq := hR _ rfl
        rw [hq] at h
        simp only [cond_true, Option.some.injEq] at h
        subst h
        exact .inr (.inr (.inr ⟨slipV, rfl, rfl, rfl⟩))
      | false =>
        rw [h1] at hR hs
        cases h2 : bytesEq (opV x n).1 [] with
        | true =>
          rw [h2] at hR
          have hq := hR _ rfl
          rw [hq] at h
          simp only [cond_false, Option.some.injEq] at h
          subst h
          exact .inr (.inr (.inl ⟨rfl, rfl⟩))
        | false =>
          rw [h2] at hR hs
          cases h3 : pe (opX x n) (n + 1) && inSc (upd x (e (opX x n) (n + 1)).2.2) with
          | false => rw [h3] at hs; cases hs
          | true =>
            rw [h3] at hR hs
            simp only [Bool.and_eq_true] at h3
            have gu := inSc_iff.1 h3.2
            rw [h3.1, okSc_of gu]
            cases h4 : (e (opX x n) (n + 1)).1 with
            | true =>
              rw [h4] at hR
              have hq := hR _ rfl
              rw [hq] at h
              simp only [cond_true, Option.some.injEq] at h
              subst h
              exact .inr (.inr (.inr ⟨slipV, rfl, rfl, rfl⟩))
            | false =>
              rw [h4] at hR hs
              simp only [cond_true, cond_false] at hR hs
              obtain ⟨q, hq⟩ := Option.isSome_iff_exists.1 hs
              have hq' := hR _ hq
              refine .inl ⟨(m, upd x (e (opX x n) (n + 1)).2.2, n, d0, opN x n d (e (opX x n) (n + 1)).2.1), rfl, ?_, Nat.lt_succ_self m⟩
              unfold exT
              have e1 : exR pe e (m, upd x (e (opX x n) (n + 1)).2.2, n, d0, opN x n d (e (opX x n) (n + 1)).2.1) = q := by
                show (exL pe e m (upd x (e (opX x n) (n + 1)).2.2) n (opN x n d (e (opX x n) (n + 1)).2.1)).getD exD = q
                rw [hq]; rfl
              have e2 : exOk pe e (m, upd x (e (opX x n) (n + 1)).2.2, n, d0, opN x n d (e (opX x n) (n + 1)).2.1) = true := by
                show (inSc (upd x (e (opX x n) (n + 1)).2.2) && (okX n && (exL pe e m (upd x (e (opX x n) (n + 1)).2.2) n (opN x n d (e (opX x n) (n + 1)).2.1)).isSome)) = true
                rw [h3.2, hx, hq]; rfl
              rw [e1, e2]
              rw [hq'] at h
              simp only [T.run, cond_true]
              exact h
end Go.Proofs.YtlmacdfbdhpljaaGreatDoor
