/- Own text: caught: what an expression comes to, where nothing is wrong with it. -/
import Derived.Test.YtlmacdfbdhpljaaGreatDoorSw1
namespace Go.Proofs.YtlmacdfbdhpljaaGreatDoor
open Go.Ev Go.Ev.Tr Go.Proofs
set_option maxRecDepth 1000000
def okV (n : Int) : V := .tup [.int .i64 (i32I n), .agg [.int .i64 (I.lit 0), .int .i64 (I.lit 0)]]
def retW (r : AEnd × Hp) : Option Int := match r.1 with
  | .ret (.tup [.int k i, .agg [.int k1 e, .int k2 p]]) => match decide (k = .i64) && (decide (k1 = .i64) && decide (k2 = .i64)) && (ile (-2147483648) i.lo && ile i.hi 2147483647) && (isZero e && isZero p) with
    | true => some i.n
    | false => none
  | _ => none
theorem caught_ev (m : EvM) (c d : Dv) (h : Int) : ((callA (smW m) noRO 44 [.deep d, scV c h] (startHp 6 1000000)).bind fun r => T.ret (retW r)).run = bif (m c d h).isSome then some (some ((m c d h).getD 0)) else none := by kernel_rfl
def deepOf : Option V → Option Dv
  | some (.deep d) => some d
  | _ => none
theorem deepOf_some {v : Option V} {d : Dv} (h : deepOf v = some d) : v = some (.deep d) := by
  unfold deepOf at h
  split at h
  · injection h with h; subst h; rfl
  · cases h
def caughtSum (m : EvM) : Summ := fun _ hp args => match args with
  | [x, .agg [.func fn [] [b], .int k h]] => match deepOf (conv1 20 hp x) with
    | some d => match deepOf (conv1 20 hp b) with
      | some c => match isF41 fn && decide (k = .i64) && (ile (-9223372036854775808) h.lo && ile h.hi 9223372036854775807) with
        | true => .br (m c d h.n).isSome (.ret (.ret (okV ((m c d h.n).getD 0)), dropL hp (ids1 20 hp x ++ ids1 20 hp b))) .fail
        | false => .fail
      | none => .fail
    | none => .fail
  | _ => .fail
theorem zero_of {i : I} (h : isZero i = true) {n : Int} (hn : IR i n) : n = 0 := by
  simp only [isZero, Bool.and_eq_true, ieq_iff] at h
  have := hn.2
  omega
theorem caught_at {m : EvM} (hm : SumAt 77 (evSum m)) : SumAt 44 (caughtSum m) := by
  intro ro hp args r hr w0 F ρ w l hrel hl
  unfold caughtSum at hr
  split at hr <;> try (cases hr; done)
  rename_i x fn b k h
  split at hr <;> try (cases hr; done)
  rename_i d hd
  split at hr <;> try (cases hr; done)
  rename_i c hc
  split at hr <;> try (cases hr; done)
  rename_i hk
  simp only [Bool.and_eq_true, decide_eq_true_eq, ile_iff] at hk
  obtain ⟨⟨hf, rfl⟩, h1, h2⟩ := hk
  have hf := isF41_eq hf
  subst hf
  simp only [T.run] at hr
  cases hs : (m c d h.n).isSome with
  | false => rw [hs] at hr; cases hr
  | true =>
    rw [hs] at hr
    simp only [cond_true, Option.some.injEq] at hr
    subst hr
    obtain ⟨v, hv⟩ := Option.isSome_iff_exists.1 hs
    obtain ⟨xv, xs, rfl, hx, y, ys, rfl, ⟨la, rfl, fv, fvs, rfl, ⟨f1, c1, e1, e2, q, qs, e3, hb, e5⟩, z, zs, rfl, ⟨n, rfl, hn⟩, hz⟩, hnil⟩ := hl
    have hz : zs = [] := hz
    have hnil : ys = [] := hnil
    subst hz; subst hnil
    have hids : ∀ i ∈ ids1 20 hp x ++ ids1 20 hp b, ∃ bk, hp.m.get i = some bk := fun i hi => by
      rcases List.mem_append.1 hi with hi | hi
      · exact ids1_own hi
      · exact ids1_own hi
    have hfz := hrel.freeze hids
    obtain ⟨_, gx⟩ := conv1_sound hrel (deepOf_some hd) hx fun i hi => List.mem_append_left _ hi
    obtain ⟨_, gb⟩ := conv1_sound hrel (deepOf_some hc) hb fun i hi => List.mem_append_right _ hi
    have hrun := caught_ev m c d h.n
    rw [hv] at hrun
    obtain ⟨⟨e, hp'⟩, g1, g2⟩ := T.run_bind_some hrun
    injection g2 with g2
    unfold retW at g2
    split at g2 <;> try (cases g2; done)
    rename_i k' i k1 ee k2 pp he
    split at g2 <;> try (cases g2; done)
    rename_i hc2
    simp only [Bool.and_eq_true, decide_eq_true_eq, ile_iff] at hc2
    obtain ⟨⟨⟨rfl, rfl, rfl⟩, i1, i2⟩, z1, z2⟩ := hc2
    have he : e = .ret (.tup [.int .i64 i, .agg [.int .i64 ee, .int .i64 pp]]) := he
    subst he
    injection g2 with g2
    have hargs : VRs ⟨fun id => if id < 6 then ρ id else none, Hn ρ w (ids1 20 hp x ++ ids1 20 hp b)⟩ [.deep d, scV c h.n] [xv, .agg ⟨[fv, .int .i64 n]⟩] := by
      refine ⟨_, _, rfl, gx, _, _, rfl, ⟨_, rfl, _, _, rfl, ⟨f1, c1, e1, e2, q, qs, e3, gb, e5⟩, _, _, rfl, ⟨n, rfl, hn.1, ?_, ?_⟩, rfl⟩, rfl⟩
      · show (-9223372036854775808 : Int) ≤ n
        have := hn.2; omega
      · show n ≤ 9223372036854775807
        have := hn.2; omega
    obtain ⟨a1, a2⟩ := callAOK (sm_cons (sm_cons sm1_ok both_at) hm) _ _ _ _ _ g1 _ _ _ w _ (startH hfz 1000000) hargs
    refine ⟨a1, a2.mono fun en w' ⟨ρ', _, k2, u, k3, k4⟩ => ⟨⟨ρ.f, Hn ρ w (ids1 20 hp x ++ ids1 20 hp b)⟩, ⟨fun _ _ h => h, fun _ _ h => Hn_old h⟩, hfz.pure k2, u, k3, ?_⟩⟩
    obtain ⟨lt, rfl, u1, us, rfl, ⟨n1, rfl, hn1⟩, u2, us2, rfl, ⟨la2, rfl, u3, us3, rfl, ⟨n3, rfl, hn3⟩, u4, us4, rfl, ⟨n4, rfl, hn4⟩, hz4⟩, hz2⟩ := k4
    have hz4 : us4 = [] := hz4
    have hz2 : us2 = [] := hz2
    subst hz4; subst hz2
    have e3 := zero_of z1 hn3
    have e4 := zero_of z2 hn4
    subst e3; subst e4
    refine ⟨_, rfl, _, _, rfl, ⟨n1, rfl, ?_, ?_, ?_⟩, _, _, rfl, ⟨_, rfl, _, _, rfl, ⟨0, rfl, IR.lit 0⟩, _, _, rfl, ⟨0, rfl, IR.lit 0⟩, rfl⟩, rfl⟩
    · show n1 = (m c d h.n).getD 0
      rw [hn1.1, g2, hv]
    · show (-2147483648 : Int) ≤ n1
      have := hn1.2; omega
    · show n1 ≤ 2147483647
      have := hn1.2; omega
end Go.Proofs.YtlmacdfbdhpljaaGreatDoor
