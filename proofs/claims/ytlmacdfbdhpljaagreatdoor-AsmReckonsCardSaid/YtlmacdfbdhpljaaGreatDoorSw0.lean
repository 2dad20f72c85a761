/- Own text: expressions, reckoned: eval, by as many steps down as are granted. -/
import Derived.Test.YtlmacdfbdhpljaaGreatDoorSo4
import Derived.Test.YtlmacdfbdhpljaaGreatDoorSq
namespace Go.Proofs.YtlmacdfbdhpljaaGreatDoor
open Go.Ev Go.Ev.Tr Go.Proofs
set_option maxRecDepth 1000000
/-- A run that begins with what does not change any more. -/
theorem startH {w0 : Base} {F : Nat → Prop} {G : Nat} {ro : RO} {ρ : Ren} {hp : Hp} {w : World} (hr : Rel w0 F G ro ρ hp w) (L : Nat) : Rel ⟨w, ⟨fun id => if id < G then ρ id else none, ρ.H⟩, G⟩ (fun _ => False) G noRO ⟨fun id => if id < G then ρ id else none, ρ.H⟩ (startHp G L) w := by
  refine ⟨fun id b h => (by cases h), fun i j b c B t t' h _ _ _ => (by cases h), fun id b h => (by cases h), fun id h1 h2 => ?_, fun _ _ _ => rfl, Nat.le_refl _, rfl, rfl, rfl, fun g hlt => ?_, fun id x h => .inl h, Nat.le_refl _, hr.fz.keep, fun id b B t h => (by cases h), fun B l h => .inl h⟩
  · have h1 : G ≤ id := h1
    show (if id < G then ρ id else none) = none
    rw [if_neg (by omega)]
  · obtain ⟨t, ht⟩ := hr.glob g hlt
    exact ⟨t, by show (if g < G then ρ g else none) = _; rw [if_pos hlt]; exact ht⟩
def i32I (n : Int) : I := ⟨n, -2147483648, 2147483647⟩
def fits32 (n : Int) : Bool := decide (-2147483648 ≤ n) && decide (n ≤ 2147483647)
def isF41 : Fn → Bool
  | .func f => Nat.beq f 41
  | _ => false
/-- The scope of Eval: the names lie at c; what @ is. -/
def scV (c : Dv) (h : Int) : V := .agg [.func (.func 41) [] [.deep c], .int .i64 ⟨h, -9223372036854775808, 9223372036854775807⟩]
/-- What an expression comes to: where the names lie, the node, what @ is. -/
abbrev EvM := Dv → Dv → Int → Option Int
def evSum (m : EvM) : Summ := fun _ hp args => match args with
  | [.deep d, .agg [.func fn [] [.deep c], .int k h]] => match isF41 fn && decide (k = .i64) && (ile (-9223372036854775808) h.lo && ile h.hi 9223372036854775807) with
    | true => .br (m c d h.n).isSome (.ret (.ret (.int .i64 (i32I ((m c d h.n).getD 0))), hp)) .fail
    | false => .fail
  | _ => .fail
/-! ### what stands between two -/
noncomputable def bothD (d : Dv) (a b : I) : T (AEnd × Hp) := bodyF2 (envA sm1) 10000 (callA sm1) noRO (fnOf 121) (withHooks (fun _ => none) (bodyOf 121)) [.deep d, .int .i64 a, .int .i64 b] (startHp 6 1000000)
def retV (hp : Hp) (r : AEnd × Hp) : T (AEnd × Hp) := match r.1 with
  | .ret (.int k i) => .ret (.ret (.int k i), hp)
  | _ => .fail
def isShr : Dv → Bool
  | .ptr (.str op :: _) _ => bytesEq op [62, 62]
  | _ => false
noncomputable def bothSum : Summ := fun _ hp args => match args with
  | [.deep d, .int k a, .int k' b] => match decide (k = .i64) && decide (k' = .i64) with
    | true => match isShr d with
      | true => .br (decide (0 ≤ b.n) && decide (b.n ≤ 31)) ((bothD d a ⟨b.n, 0, 31⟩).bind (retV hp)) .fail
      | false => (bothD d a b).bind (retV hp)
    | false => .fail
  | _ => .fail
theorem fns121 : fns.get 121 = some (fnOf 121) := by kernel_rfl
theorem body121 : (fnOf 121).body = some (bodyOf 121) := by kernel_rfl
theorem both_run {ro : RO} {hp : Hp} {d : Dv} {a b : I} {r : AEnd × Hp} (hr : ((bothD d a b).bind (retV hp)).run = some r) {w0 : Base} {F : Nat → Prop} {ρ : Ren} {w : World} {l : List Value} (hrel : Rel w0 F 6 ro ρ hp w) (hl : VRs ρ [.deep d, .int .i64 a, .int .i64 b] l) :
    Calls Tryz.prog 121 ⟨l⟩ w (EndR w0 F 6 ro ρ r) := by
  obtain ⟨⟨e, hp'⟩, g1, g2⟩ := T.run_bind_some hr
  unfold retV at g2
  split at g2 <;> try (cases g2; done)
  rename_i k i he
  injection g2 with g2
  subst g2
  have he : e = .ret (.int k i) := he
  subst he
  have hargs : VRs ⟨fun id => if id < 6 then ρ id else none, ρ.H⟩ [.deep d, .int .i64 a, .int .i64 b] l := by
    obtain ⟨x, xs, rfl, hx, y, ys, rfl, hy, z, zs, rfl, hz, hn⟩ := hl
    exact ⟨_, _, rfl, hx, _, _, rfl, hy, _, _, rfl, hz, hn⟩
  have g := bodyF2_sound (E := envA sm1) (c := withHooks (fun _ => none) (bodyOf 121)) (envAOK sm1) (callAOK sm1_ok) ((envAOK sm1).fn 121 _ fns121) (by rw [withHooks_erase]; exact body121) (withHooks_ok _ fun _ _ _ h _ => by cases h) g1 (startH hrel 1000000) hargs
  exact g.mono fun e w' ⟨ρ', _, k2, u, k3, k4⟩ => ⟨ρ, Ren.le.refl _, hrel.pure k2, u, k3, k4⟩
theorem both_at : SumAt 121 bothSum := by
  intro ro hp args r hr w0 F ρ w l hrel hl
  unfold bothSum at hr
  split at hr <;> try (cases hr; done)
  rename_i d k a k' b
  split at hr <;> try (cases hr; done)
  rename_i hk
  simp only [Bool.and_eq_true, decide_eq_true_eq] at hk
  obtain ⟨rfl, rfl⟩ := hk
  refine ⟨callsAt 121 _ fns121 _, ?_⟩
  split at hr
  · simp only [T.run] at hr
    cases hc : decide (0 ≤ b.n) && decide (b.n ≤ 31) with
    | false => rw [hc] at hr; cases hr
    | true =>
      rw [hc] at hr
      simp only [cond_true] at hr
      simp only [Bool.and_eq_true, decide_eq_true_eq] at hc
      refine both_run hr hrel ?_
      obtain ⟨x, xs, rfl, hx, y, ys, rfl, hy, z, zs, rfl, ⟨n, rfl, hb, _, _⟩, hn⟩ := hl
      exact ⟨_, _, rfl, hx, _, _, rfl, hy, _, _, rfl, ⟨n, rfl, hb, by show (0 : Int) ≤ n; omega, by show n ≤ 31; omega⟩, hn⟩
  · exact both_run hr hrel hl
noncomputable def smW (m : EvM) (f : Nat) : Option Summ := match Nat.beq f 77 with
  | true => some (evSum m)
  | false => match Nat.beq f 121 with
    | true => some bothSum
    | false => sm1 f
noncomputable def evalD (m : EvM) (c d : Dv) (h : Int) : T (AEnd × Hp) := bodyF2 (envA (smW m)) 10000 (callA (smW m)) noRO (fnOf 77) (withHooks (fun _ => none) (bodyOf 77)) [.deep d, scV c h] (startHp 6 1000000)
def retI (r : AEnd × Hp) : Option Int := match r.1 with
  | .ret (.int k i) => match decide (k = .i64) with
    | true => some i.n
    | false => none
  | _ => none
noncomputable def evalI (m : EvM) (c d : Dv) (h : Int) : T (Option Int) := (evalD m c d h).bind fun r => .ret (retI r)
/-- One step more. -/
noncomputable def upE (m : EvM) : EvM := fun c d h => match (evalI m c d h).run with
  | some (some n) => match fits32 n with
    | true => some n
    | false => none
  | _ => none
theorem isF41_eq {fn : Fn} (h : isF41 fn = true) : fn = .func 41 := by
  unfold isF41 at h
  split at h
  · rw [Nat.eq_of_beq_eq_true h]
  · cases h
theorem fns77 : fns.get 77 = some (fnOf 77) := by kernel_rfl
theorem body77 : (fnOf 77).body = some (bodyOf 77) := by kernel_rfl
theorem ev_up {m : EvM} (hm : SumAt 77 (evSum m)) : SumAt 77 (evSum (upE m)) := by
  intro ro hp args r hr w0 F ρ w l hrel hl
  unfold evSum at hr
  split at hr <;> try (cases hr; done)
  rename_i d fn c k h
  split at hr <;> try (cases hr; done)
  rename_i hc
  simp only [Bool.and_eq_true, decide_eq_true_eq, ile_iff] at hc
  obtain ⟨⟨hf, rfl⟩, h1, h2⟩ := hc
  have hf := isF41_eq hf
  subst hf
  simp only [T.run] at hr
  cases hs : (upE m c d h.n).isSome with
  | false => rw [hs] at hr; cases hr
  | true =>
    rw [hs] at hr
    simp only [cond_true, Option.some.injEq] at hr
    subst hr
    obtain ⟨v, hv⟩ := Option.isSome_iff_exists.1 hs
    have hv0 := hv
    unfold upE at hv
    split at hv <;> try (cases hv; done)
    rename_i n hrun
    split at hv <;> try (cases hv; done)
    rename_i hfit
    injection hv with hv
    subst hv
    unfold evalI at hrun
    obtain ⟨⟨e, hp'⟩, g1, g2⟩ := T.run_bind_some hrun
    injection g2 with g2
    unfold retI at g2
    simp only at g2
    split at g2 <;> try (cases g2; done)
    rename_i k' i
    split at g2 <;> try (cases g2; done)
    rename_i hk
    have hk := of_decide_eq_true hk
    subst hk
    injection g2 with g2
    obtain ⟨x, xs, rfl, hx, y, ys, rfl, ⟨la, rfl, fv, fvs, rfl, hfv, z, zs, rfl, ⟨b, rfl, hb⟩, hz⟩, hn⟩ := hl
    have hz : zs = [] := hz
    have hn : ys = [] := hn
    subst hz; subst hn
    have hb2 : b = h.n := hb.1
    have hbb := hb.2
    refine ⟨callsAt 77 _ fns77 _, ?_⟩
    have hargs : VRs ⟨fun id => if id < 6 then ρ id else none, ρ.H⟩ [.deep d, scV c h.n] [x, .agg ⟨[fv, .int .i64 b]⟩] := by
      refine ⟨_, _, rfl, hx, _, _, rfl, ⟨_, rfl, _, _, rfl, ?_, _, _, rfl, ⟨b, rfl, hb2, by show (-9223372036854775808 : Int) ≤ b; omega, by show b ≤ 9223372036854775807; omega⟩, rfl⟩, rfl⟩
      obtain ⟨f1, c1, e1, e2, q, qs, e3, e4, e5⟩ := hfv
      exact ⟨f1, c1, e1, e2, q, qs, e3, e4, e5⟩
    have g := bodyF2_sound (E := envA (smW m)) (c := withHooks (fun _ => none) (bodyOf 77)) (envAOK (smW m)) (callAOK (sm_cons (sm_cons sm1_ok both_at) hm)) ((envAOK (smW m)).fn 77 _ fns77) (by rw [withHooks_erase]; exact body77) (withHooks_ok _ fun _ _ _ h _ => by cases h) g1 (startH hrel 1000000) hargs
    refine g.mono fun e w' ⟨ρ', _, k2, u, k3, k4⟩ => ⟨ρ, Ren.le.refl _, hrel.pure k2, u, k3, ?_⟩
    obtain ⟨n', rfl, i1, _⟩ := k4
    simp only [fits32, Bool.and_eq_true, decide_eq_true_eq] at hfit
    refine ⟨n', rfl, ?_⟩
    show IR (i32I ((upE m c d h.n).getD 0)) n'
    rw [hv0]
    refine ⟨by rw [i1, g2]; rfl, ?_, ?_⟩
    · show (-2147483648 : Int) ≤ n'
      omega
    · show n' ≤ 2147483647
      omega
theorem ev_zero : SumAt 77 (evSum fun _ _ _ => none) := by
  intro ro hp args r hr
  exfalso
  unfold evSum at hr
  split at hr <;> try (cases hr; done)
  split at hr <;> cases hr
noncomputable def evM : Nat → EvM
  | 0 => fun _ _ _ => none
  | k + 1 => upE (evM k)
theorem ev_at : ∀ k, SumAt 77 (evSum (evM k))
  | 0 => ev_zero
  | k + 1 => ev_up (ev_at k)
end Go.Proofs.YtlmacdfbdhpljaaGreatDoor
