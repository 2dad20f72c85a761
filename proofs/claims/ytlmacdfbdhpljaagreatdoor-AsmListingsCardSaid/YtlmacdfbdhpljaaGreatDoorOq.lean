/- Own text: functions that tell the instruction at the front of some bytes: a summary. -/
import Derived.Test.YtlmacdfbdhpljaaGreatDoorOy
namespace Go.Proofs.YtlmacdfbdhpljaaGreatDoor
open Go.Ev Go.Ev.Tr Go.Proofs
set_option maxRecDepth 1000000
/-- The bytes of a slice, and what must hold. -/
def bytesOf (blk : Blk) (o len : I) : Option (Bool × (Nat → Int)) := match blk with
  | .row k _ f lo hi => match decide (k = .u8) && ile 0 lo && ile hi 255 with
    | true => some (true, fun i => f (o.n.toNat + i))
    | false => none
  | .seg k s xs lo hi => match decide (k = .u8) && ile 0 lo && ile hi 255 with
    | true => some (decide ((s : Int) ≤ o.n ∧ o.n + len.n ≤ (s : Int) + (xs.length : Int)), fun i => xs.getD (o.n.toNat + i - s) 0)
    | false => none
  | _ => none
def insSum : Summ := fun ro hp args => match args with
  | [.slice b es o len _ _, .int k org] => match Nat.beq es 1 && decide (k = .i64) && ile 0 org.lo && ile org.hi 131072 && isPow ro && ile len.hi 4611686018427387904 with
    | true => match hp.at ro b with
      | some blk => match bytesOf blk o len with
        | some q => .br (q.1 && decide (1 ≤ len.n)) (.ret (.ret (insV (insX len.n (q.2 0) (q.2 1) (q.2 2) org.n)), hp)) .fail
        | none => .fail
      | none => .fail
    | false => .fail
  | _ => .fail
theorem bytesOf_sound {ρ : Ren} {blk : Blk} {o len : I} {q : Bool × (Nat → Int)} {w : World} {B tot n nl cap : Nat} {ob : Obj} (h : bytesOf blk o len = some q) (h1 : q.1 = true) (hw : w.heap[B]? = some ob) (hb : BR ρ tot blk ob) (ho : IR o n) (hl : IR len nl) (hc : nl ≤ cap) (ht : n + cap * 1 ≤ tot) : ByAt w B n nl q.2 := by
  have eo : o.n.toNat = n := by have := ho.1; omega
  have el := hl.1
  unfold bytesOf at h
  split at h <;> try contradiction
  · rename_i k m f lo hi
    split at h <;> try contradiction
    rename_i hk
    simp only [Bool.and_eq_true, decide_eq_true_eq, ile_iff] at hk
    obtain ⟨⟨rfl, k1⟩, k2⟩ := hk
    injection h with h; subst h
    obtain ⟨l, t, fz, rfl, g1, g2, g3, _⟩ := hb
    refine ⟨l, t, fz, hw, fun i hi => ?_⟩
    obtain ⟨q1, q2, q3⟩ := g3 (n + i) (by omega)
    simp only [eo]
    exact ⟨q1, by omega, by omega⟩
  · rename_i k s xs lo hi
    split at h <;> try contradiction
    rename_i hk
    simp only [Bool.and_eq_true, decide_eq_true_eq, ile_iff] at hk
    obtain ⟨⟨rfl, k1⟩, k2⟩ := hk
    injection h with h; subst h
    have h1 := of_decide_eq_true h1
    obtain ⟨l, t, fz, rfl, g1, g3⟩ := hb
    refine ⟨l, t, fz, hw, fun i hi => ?_⟩
    have en := ho.1
    have hlt : n + i - s < xs.length := by omega
    obtain ⟨q1, q2, q3⟩ := g3 (n + i - s) hlt
    rw [show s + (n + i - s) = n + i by omega] at q1
    simp only [eo]
    rw [List.getD_eq_getElem?_getD, List.getElem?_eq_getElem hlt]
    exact ⟨q1, by simp only [Option.getD_some]; omega, by simp only [Option.getD_some]; omega⟩
theorem insX_ok {n b0 b1 b2 org : Int} (h0 : 0 ≤ b0 ∧ b0 ≤ 255) (h1 : 2 ≤ n → 0 ≤ b1 ∧ b1 ≤ 255) : InsOk (insX n b0 b1 b2 org) := by
  have wr : 2 ≤ n → -128 ≤ IntKind.i8.wrap b1 ∧ IntKind.i8.wrap b1 ≤ 255 := fun hn => by
    obtain ⟨a, b⟩ := h1 hn
    rw [wrap8 a b]; unfold halV
    by_cases h : 128 ≤ b1
    · rw [decide_eq_true h]; simp only; omega
    · rw [decide_eq_false h]; simp only; omega
  unfold insX
  split
  · split
    · exact dbTx_ok _
    · rename_i hn
      have hn := of_decide_eq_false hn
      have := h1 (by omega)
      exact insT_ok (tmB_at (by omega)) _ _ _
  · split
    · split
      · exact dbTx_ok _
      · exact insT_ok (tmA_at (by decide)) _ _ _
    · split
      · split
        · exact dbTx_ok _
        · rename_i hn
          have hn := of_decide_eq_false hn
          have := wr (by omega)
          exact sgIns_ok (by decide) this.1 this.2 (by decide)
      · split
        · split
          · exact dbTx_ok _
          · rename_i hn
            have hn := of_decide_eq_false hn
            have := wr (by omega)
            exact sgIns_ok (by decide) this.1 this.2 (by decide)
        · split
          · exact dbTx_ok _
          · exact insL_ok (by omega) _ _ _
theorem ins_at {f : Nat} (hf : ReadsAt f) : SumAt f insSum := by
  intro ro hp args r hr w0 F ρ w l hrel hl
  unfold insSum at hr
  split at hr <;> try (cases hr; done)
  rename_i b es o len clo chi k org
  split at hr <;> try (cases hr; done)
  rename_i hc
  simp only [Bool.and_eq_true, decide_eq_true_eq, ile_iff] at hc
  obtain ⟨⟨⟨⟨⟨c1, rfl⟩, c3⟩, c4⟩, c5⟩, c6⟩ := hc
  have c1 := Nat.eq_of_beq_eq_true c1
  subst c1
  split at hr <;> try (cases hr; done)
  rename_i blk hblk
  split at hr <;> try (cases hr; done)
  rename_i q hq
  simp only [T.run] at hr
  cases hcond : q.1 && decide (1 ≤ len.n) with
  | false => rw [hcond] at hr; cases hr
  | true =>
    rw [hcond] at hr
    simp only [cond_true, Option.some.injEq] at hr
    subst hr
    simp only [Bool.and_eq_true, decide_eq_true_eq] at hcond
    obtain ⟨x, xs, rfl, ⟨B, tot, n, nl, cap, g1, rfl, g2, g3, g4, g5, g6, g7⟩, y, ys, rfl, ⟨m, rfl, hm⟩, hnil⟩ := hl
    have e : ys = [] := hnil
    subst e
    obtain ⟨B', tot', ob, e1, e2, e3, _⟩ := hrel.blk b blk hblk
    rw [g1] at e1
    obtain ⟨rfl, rfl⟩ := Prod.mk.inj (Option.some.inj e1)
    have hby := bytesOf_sound hq hcond.1 e2 e3 g2 g3 g6 g7
    have en := g3.1
    have em := hm.1
    have hm2 := hm.2
    have hl3 := g3.2
    have hbb : ∀ i, i < nl → 0 ≤ q.2 i ∧ q.2 i ≤ 255 := fun i hi => by
      obtain ⟨_, _, _, _, h2⟩ := hby
      exact (h2 i hi).2
    obtain ⟨call, ws, len', hcall, hrun, hws, hlen⟩ := hf nl q.2 m (by omega) (by omega) hbb (by omega) (by omega)
    rw [← en, ← em]
    exact insFin hcall hrun (insX_ok (hbb 0 (by omega)) fun h => hbb 1 (by omega)) hrel c5 (win_of hby hws) hlen g6 (by omega) (by omega)
end Go.Proofs.YtlmacdfbdhpljaaGreatDoor
