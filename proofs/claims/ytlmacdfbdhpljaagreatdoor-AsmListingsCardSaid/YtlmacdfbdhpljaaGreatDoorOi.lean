/- Own text: Disasm, of the program and of the document: a summary. -/
import Derived.Test.YtlmacdfbdhpljaaGreatDoorOe
namespace Go.Proofs.YtlmacdfbdhpljaaGreatDoor
open Go.Ev Go.Ev.Tr Go.Proofs
set_option maxRecDepth 1000000
def zeroIns : V := .agg [.str [], .int .i64 (I.lit 0), .int .i64 (I.lit 0), .int .i64 (I.lit 0)]
def disE : Option (Option (V × V)) := some (some (zeroIns, .int .i64 (I.lit 1)))
def disX (s : Nat) (n : Int) (xs : List Int) (a o : Int) : Option (Option (V × V)) := some (some (insV (insX (n - a) (xs.getD (((s : Int) + a).toNat + 0 - s) 0) (xs.getD (((s : Int) + a).toNat + 1 - s) 0) (xs.getD (((s : Int) + a).toNat + 2 - s) 0) (o + a)), .int .i64 (I.lit 0)))
theorem disA21 (s n : Nat) (xs : List Int) (a o : Int) : (disT 21 s n xs ⟨a, -9223372036854775808, -1⟩ ⟨o, -9223372036854775808, 9223372036854775807⟩).run = disE := by kernel_rfl
theorem disB21 (s n : Nat) (xs : List Int) (a o : Int) : (disT 21 s n xs ⟨a, 0, 9223372036854775807⟩ ⟨o, -9223372036854775808, -1⟩).run = (bif decide ((n : Int) ≤ a) then disE else disE) := by kernel_rfl
theorem disC21 (s n : Nat) (xs : List Int) (a o : Int) : (disT 21 s n xs ⟨a, 0, 9223372036854775807⟩ ⟨o, 65536, 9223372036854775807⟩).run = (bif decide ((n : Int) ≤ a) then disE else disE) := by kernel_rfl
theorem disD21 (s n : Nat) (xs : List Int) (a o : Int) : (disT 21 s n xs ⟨a, 0, 9223372036854775807⟩ ⟨o, 0, 65535⟩).run = (bif decide ((n : Int) ≤ a) then disE else bif !decide (o + n ≤ 65536) then disE else bif decide (a < (n : Int) ∧ a ≤ n ∧ (n : Int) ≤ n) then none else none) := by kernel_rfl
theorem disV21 (s n : Nat) (xs : List Int) (a o : Int) : (disT 21 s n xs ⟨a, 0, 65535⟩ ⟨o, 0, 65535⟩).run = (bif decide ((n : Int) ≤ a) then disE else bif !decide (o + n ≤ 65536) then disE else bif decide (a < (n : Int) ∧ a ≤ n ∧ (n : Int) ≤ n) then bif decide ((s : Int) ≤ s + a ∧ (s : Int) + a + (n - a) ≤ (s : Int) + (xs.length : Int)) && decide (1 ≤ (n : Int) - a) then disX s n xs a o else none else none) := by kernel_rfl
theorem disA47' (s n : Nat) (xs : List Int) (a o : Int) : (disT 47 s n xs ⟨a, -9223372036854775808, -1⟩ ⟨o, -9223372036854775808, 9223372036854775807⟩).run = (bif decide (0 ≤ o) then bif decide (o ≤ 65535) then disE else disE else disE) := by kernel_rfl
theorem disA47 (s n : Nat) (xs : List Int) (a o : Int) : (disT 47 s n xs ⟨a, -9223372036854775808, -1⟩ ⟨o, -9223372036854775808, 9223372036854775807⟩).run = disE := by
  rw [disA47']
  cases decide (0 ≤ o) <;> cases decide (o ≤ 65535) <;> rfl
theorem disB47 (s n : Nat) (xs : List Int) (a o : Int) : (disT 47 s n xs ⟨a, 0, 9223372036854775807⟩ ⟨o, -9223372036854775808, -1⟩).run = (bif decide ((n : Int) ≤ a) then disE else disE) := by kernel_rfl
theorem disC47 (s n : Nat) (xs : List Int) (a o : Int) : (disT 47 s n xs ⟨a, 0, 9223372036854775807⟩ ⟨o, 65536, 9223372036854775807⟩).run = (bif decide ((n : Int) ≤ a) then disE else disE) := by kernel_rfl
theorem disD47 (s n : Nat) (xs : List Int) (a o : Int) : (disT 47 s n xs ⟨a, 0, 9223372036854775807⟩ ⟨o, 0, 65535⟩).run = (bif decide ((n : Int) ≤ a) then disE else bif !decide (o + n ≤ 65536) then disE else bif decide (a < (n : Int) ∧ a ≤ n ∧ (n : Int) ≤ n) then none else none) := by kernel_rfl
theorem disV47 (s n : Nat) (xs : List Int) (a o : Int) : (disT 47 s n xs ⟨a, 0, 65535⟩ ⟨o, 0, 65535⟩).run = (bif decide ((n : Int) ≤ a) then disE else bif !decide (o + n ≤ 65536) then disE else bif decide (a < (n : Int) ∧ a ≤ n ∧ (n : Int) ≤ n) then bif decide ((s : Int) ≤ s + a ∧ (s : Int) + a + (n - a) ≤ (s : Int) + (xs.length : Int)) && decide (1 ≤ (n : Int) - a) then disX s n xs a o else none else none) := by kernel_rfl
/-- What is known of both. -/
structure DisAt (f : Nat) : Prop where
  A : ∀ (s n : Nat) (xs : List Int) (a o : Int), (disT f s n xs ⟨a, -9223372036854775808, -1⟩ ⟨o, -9223372036854775808, 9223372036854775807⟩).run = disE
  B : ∀ (s n : Nat) (xs : List Int) (a o : Int), (disT f s n xs ⟨a, 0, 9223372036854775807⟩ ⟨o, -9223372036854775808, -1⟩).run = (bif decide ((n : Int) ≤ a) then disE else disE)
  C : ∀ (s n : Nat) (xs : List Int) (a o : Int), (disT f s n xs ⟨a, 0, 9223372036854775807⟩ ⟨o, 65536, 9223372036854775807⟩).run = (bif decide ((n : Int) ≤ a) then disE else disE)
  D : ∀ (s n : Nat) (xs : List Int) (a o : Int), (disT f s n xs ⟨a, 0, 9223372036854775807⟩ ⟨o, 0, 65535⟩).run = (bif decide ((n : Int) ≤ a) then disE else bif !decide (o + n ≤ 65536) then disE else bif decide (a < (n : Int) ∧ a ≤ n ∧ (n : Int) ≤ n) then none else none)
  V : ∀ (s n : Nat) (xs : List Int) (a o : Int), (disT f s n xs ⟨a, 0, 65535⟩ ⟨o, 0, 65535⟩).run = (bif decide ((n : Int) ≤ a) then disE else bif !decide (o + n ≤ 65536) then disE else bif decide (a < (n : Int) ∧ a ≤ n ∧ (n : Int) ≤ n) then bif decide ((s : Int) ≤ s + a ∧ (s : Int) + a + (n - a) ≤ (s : Int) + (xs.length : Int)) && decide (1 ≤ (n : Int) - a) then disX s n xs a o else none else none)
theorem dis21 : DisAt 21 := ⟨disA21, disB21, disC21, disD21, disV21⟩
theorem dis47 : DisAt 47 := ⟨disA47, disB47, disC47, disD47, disV47⟩
/-- A byte of the slice; 0 behind it. -/
def gB (f : Nat → Int) (n : Int) (j : Nat) : Int := if (j : Int) < n then f j else 0
def disSum : Summ := fun ro hp args => match args with
  | [.slice b es o len _ chi, .int k a, .int k' org] => match Nat.beq es 1 && decide (k = .i64) && decide (k' = .i64) && isPow ro && (ile (-9223372036854775808) a.lo && ile a.hi 9223372036854775807 && (ile (-9223372036854775808) org.lo && ile org.hi 9223372036854775807 && (ile len.hi 281474976710656 && ile chi magicS))) with
    | true => match hp.at ro b with
      | some blk => match bytesOf blk o len with
        | some q => .br q.1 (.br (decide (0 ≤ a.n ∧ a.n < len.n ∧ 0 ≤ org.n ∧ org.n ≤ 65535 ∧ org.n + len.n ≤ 65536))
            (.ret (.ret (.tup [insV (insX (len.n - a.n) (gB q.2 len.n a.n.toNat) (gB q.2 len.n (a.n.toNat + 1)) (gB q.2 len.n (a.n.toNat + 2)) (org.n + a.n)), .int .i64 (I.lit 0)]), hp)) (.ret (.ret (.tup [zeroIns, .int .i64 (I.lit 1)]), hp))) .fail
        | none => .fail
      | none => .fail
    | false => .fail
  | _ => .fail
theorem disOf_run {t : T (AEnd × Hp)} {u v : V} (h : (t.bind fun r => T.ret (disOf r)).run = some (some (u, v))) : ∃ hp', t.run = some (.ret (.tup [u, v]), hp') := by
  obtain ⟨⟨e, hp⟩, h1, h2⟩ := T.run_bind_some h
  injection h2 with h2
  unfold disOf at h2
  simp only at h2
  split at h2 <;> try contradiction
  injection h2 with h2
  injection h2 with h2 h3
  subst h2; subst h3
  exact ⟨hp, h1⟩
theorem smD2_ok' (h : SumAt 79 insSum) : ∀ f s, smD2 f = some s → SumAt f s := sm_cons (sm_cons sm1_ok h) (ins_at one_reads)
theorem xs_getD (f : Nat → Int) (n j : Nat) : ((List.range n).map f).getD j 0 = gB f n j := by
  unfold gB
  rw [List.getD_eq_getElem?_getD, List.getElem?_map]
  by_cases h : j < n
  · rw [List.getElem?_range h, if_pos (by omega)]; rfl
  · rw [List.getElem?_eq_none (by simpa using h), if_neg (by omega)]; rfl
/-- A run in a small memory, as a call in any memory. -/
theorem segCall (h79 : SumAt 79 insSum) {f : Nat} {s nl : Nat} {xs : List Int} {a o : I} {u v : V} (h : (disT f s nl xs a o).run = some (some (u, v))) (hu : V.under 0 (.tup [u, v]) = true)
    {w0 : Base} {F : Nat → Prop} {ρ : Ren} {hp : Hp} {w : World} {ro : RO} (hr : Rel w0 F 6 ro ρ hp w) (hpow : isPow ro = true) {B cap : Nat} {l : List Value} {t : TypeId} {fz : Nat × Nat} (hw : w.heap[B]? = some (.cells ⟨l⟩ t fz))
    (hx : ∀ i, (h : i < xs.length) → l[s + i]? = some (.int .u8 xs[i]) ∧ 0 ≤ xs[i] ∧ xs[i] ≤ 255) {m mo : Int} (hm : IR a m) (hmo : IR o mo) (h2 : nl ≤ 281474976710656) (h3 : nl ≤ cap) (h4 : (cap : Int) ≤ magicS) (h5 : s + cap ≤ l.length) :
    (∀ w, (callFunc f ⟨[.slice (some ⟨B, s, none⟩) nl cap, .int .i64 m, .int .i64 mo]⟩).run Tryz.prog w = .ok (.enter f ⟨[.slice (some ⟨B, s, none⟩) nl cap, .int .i64 m, .int .i64 mo]⟩) w) ∧
      Calls Tryz.prog f ⟨[.slice (some ⟨B, s, none⟩) nl cap, .int .i64 m, .int .i64 mo]⟩ w (EndR w0 F 6 ro ρ (.ret (.tup [u, v]), hp)) := by
  obtain ⟨hp', h6⟩ := disOf_run h
  have hrel := rel_seg hr hpow hw rfl hx
  have hl : VRs (renW B l.length) [slG s nl, .int .i64 a, .int .i64 o] [.slice (some ⟨B, s, none⟩) nl cap, .int .i64 m, .int .i64 mo] :=
    ⟨_, _, rfl, ⟨B, l.length, s, nl, cap, rfl, rfl, ⟨rfl, by show (-1 : Int) ≤ s; omega, Int.le_refl _⟩, ⟨rfl, by show (0 : Int) ≤ nl; omega, by show (nl : Int) ≤ 281474976710656; omega⟩, by omega, h4, h3, by omega⟩, _, _, rfl, ⟨m, rfl, hm⟩, _, _, rfl, ⟨mo, rfl, hmo⟩, rfl⟩
  obtain ⟨g1, g2⟩ := callAOK (smD2_ok' h79) _ _ _ _ _ h6 _ _ _ w _ hrel hl
  refine ⟨g1, g2.mono fun e w' ⟨ρ', k1, k2, x, k3, k4⟩ => ⟨ρ, Ren.le.refl _, hr.pure k2, x, k3, under_mono (n := 0) (fun id x _ h => by omega) _ x hu k4⟩⟩
theorem dis_at (h79 : SumAt 79 insSum) {f : Nat} (hf : DisAt f) : SumAt f disSum := by
  intro ro hp args r hr w0 F ρ w l hrel hl
  unfold disSum at hr
  split at hr <;> try (cases hr; done)
  rename_i b es o len clo chi k a k' org
  split at hr <;> try (cases hr; done)
  rename_i hc
  simp only [Bool.and_eq_true, decide_eq_true_eq, ile_iff] at hc
  obtain ⟨⟨⟨⟨c1, rfl⟩, rfl⟩, c4⟩, ⟨a1, a2⟩, ⟨o1, o2⟩, l1, ch⟩ := hc
  have c1 := Nat.eq_of_beq_eq_true c1
  subst c1
  split at hr <;> try (cases hr; done)
  rename_i blk hblk
  split at hr <;> try (cases hr; done)
  rename_i q hq
  simp only [T.run] at hr
  cases hcond : q.1 with
  | false => rw [hcond] at hr; cases hr
  | true =>
    rw [hcond] at hr
    simp only [cond_true] at hr
    obtain ⟨x, xs, rfl, ⟨B, tot, n, nl, cap, g1, rfl, g2, g3, g4, g5, g6, g7⟩, y, ys, rfl, ⟨m, rfl, hm⟩, z, zs, rfl, ⟨mo, rfl, hmo⟩, hnil⟩ := hl
    have e : zs = [] := hnil
    subst e
    obtain ⟨B', tot', ob, e1, e2, e3, _⟩ := hrel.blk b blk hblk
    rw [g1] at e1
    obtain ⟨rfl, rfl⟩ := Prod.mk.inj (Option.some.inj e1)
    have hby := bytesOf_sound hq hcond e2 e3 g2 g3 g6 g7
    have htot : ∀ l t fz, ob = .cells ⟨l⟩ t fz → l.length = tot := fun l t fz he => by
      unfold bytesOf at hq
      split at hq <;> try contradiction
      · obtain ⟨l', t', fz', rfl, q1, _⟩ := e3
        injection he with he1 he2 he3
        injection he1 with he1
        rw [← he1]; exact q1
      · obtain ⟨l', t', fz', rfl, q1, _⟩ := e3
        injection he with he1 he2 he3
        injection he1 with he1
        rw [← he1]; exact q1
    obtain ⟨lc, t, fz, hw, hbb⟩ := hby
    rw [hw] at e2
    injection e2 with e2
    have hlt := htot lc t fz e2.symm
    have en := g3.1
    have eo := g2.1
    have em := hm.1
    have emo := hmo.1
    have lb := g3.2
    have mb := hm.2
    have mob := hmo.2
    have hx : ∀ i, (h : i < ((List.range nl).map q.2).length) → lc[n + i]? = some (.int .u8 ((List.range nl).map q.2)[i]) ∧ 0 ≤ ((List.range nl).map q.2)[i] ∧ ((List.range nl).map q.2)[i] ≤ 255 := fun i h => by
      have hi : i < nl := by simpa using h
      have := hbb i hi
      simpa using this
    have go : ∀ {A O : I} {u v : V}, (disT f n nl ((List.range nl).map q.2) A O).run = some (some (u, v)) → V.under 0 (.tup [u, v]) = true → IR A m → IR O mo → _ := fun h hu hA hO =>
      segCall h79 h hu hrel c4 (cap := cap) hw hx hA hO (by omega) g6 (by omega) (by omega)
    have bad : disE = some (some (zeroIns, .int .i64 (I.lit 1))) := rfl
    cases hv : decide (0 ≤ a.n ∧ a.n < len.n ∧ 0 ≤ org.n ∧ org.n ≤ 65535 ∧ org.n + len.n ≤ 65536) with
    | false =>
      rw [hv] at hr
      simp only [cond_false, Option.some.injEq] at hr
      subst hr
      have hv := of_decide_eq_false hv
      by_cases p1 : m < 0
      · exact go (A := ⟨m, -9223372036854775808, -1⟩) (O := ⟨mo, -9223372036854775808, 9223372036854775807⟩) ((hf.A _ _ _ _ _).trans bad) rfl ⟨rfl, by show (-9223372036854775808 : Int) ≤ m; omega, by show m ≤ -1; omega⟩ ⟨rfl, by show (-9223372036854775808 : Int) ≤ mo; omega, by show mo ≤ 9223372036854775807; omega⟩
      have irA : IR ⟨m, 0, 9223372036854775807⟩ m := ⟨rfl, by show (0 : Int) ≤ m; omega, by show m ≤ 9223372036854775807; omega⟩
      by_cases p2 : mo < 0
      · refine go (A := ⟨m, 0, 9223372036854775807⟩) (O := ⟨mo, -9223372036854775808, -1⟩) ((hf.B _ _ _ _ _).trans ?_) rfl irA ⟨rfl, by show (-9223372036854775808 : Int) ≤ mo; omega, by show mo ≤ -1; omega⟩
        cases decide ((nl : Int) ≤ m) <;> rfl
      by_cases p3 : 65535 < mo
      · refine go (A := ⟨m, 0, 9223372036854775807⟩) (O := ⟨mo, 65536, 9223372036854775807⟩) ((hf.C _ _ _ _ _).trans ?_) rfl irA ⟨rfl, by show (65536 : Int) ≤ mo; omega, by show mo ≤ 9223372036854775807; omega⟩
        cases decide ((nl : Int) ≤ m) <;> rfl
      · refine go (A := ⟨m, 0, 9223372036854775807⟩) (O := ⟨mo, 0, 65535⟩) ((hf.D _ _ _ _ _).trans ?_) rfl irA ⟨rfl, by show (0 : Int) ≤ mo; omega, by show mo ≤ 65535; omega⟩
        by_cases p4 : (nl : Int) ≤ m
        · rw [decide_eq_true p4]; rfl
        · rw [decide_eq_false p4, decide_eq_false (show ¬ (mo + nl ≤ 65536) by omega)]; rfl
    | true =>
      rw [hv] at hr
      simp only [cond_true, Option.some.injEq] at hr
      subst hr
      have hv := of_decide_eq_true hv
      have key : (disT f n nl ((List.range nl).map q.2) ⟨m, 0, 65535⟩ ⟨mo, 0, 65535⟩).run = some (some (insV (insX (len.n - a.n) (gB q.2 len.n a.n.toNat) (gB q.2 len.n (a.n.toNat + 1)) (gB q.2 len.n (a.n.toNat + 2)) (org.n + a.n)), .int .i64 (I.lit 0))) := by
        rw [hf.V, decide_eq_false (show ¬ ((nl : Int) ≤ m) by omega), decide_eq_true (show mo + (nl : Int) ≤ 65536 by omega), decide_eq_true (show m < (nl : Int) ∧ m ≤ nl ∧ (nl : Int) ≤ nl by omega),
          decide_eq_true (show (n : Int) ≤ n + m ∧ (n : Int) + m + (nl - m) ≤ (n : Int) + (((List.range nl).map q.2).length : Int) by rw [List.length_map, List.length_range]; omega), decide_eq_true (show (1 : Int) ≤ (nl : Int) - m by omega)]
        simp only [cond_false, cond_true, Bool.not_true, Bool.and_self]
        unfold disX
        rw [show ((n : Int) + m).toNat + 0 - n = m.toNat by omega, show ((n : Int) + m).toNat + 1 - n = m.toNat + 1 by omega, show ((n : Int) + m).toNat + 2 - n = m.toNat + 2 by omega, xs_getD, xs_getD, xs_getD, en, em, emo]
      exact go key rfl ⟨rfl, by show (0 : Int) ≤ m; omega, by show m ≤ 65535; omega⟩ ⟨rfl, by show (0 : Int) ≤ mo; omega, by show mo ≤ 65535; omega⟩
end Go.Proofs.YtlmacdfbdhpljaaGreatDoor
