/- Own text: that the abstract operations say what the model's do: append, bytes, the lesser and the greater. -/
import Derived.Test.YtoeipbkoeclbeaaEvSd5
import Derived.Laws.AppendOwn
namespace Go.Ev
section
variable {P : Program} {ti : Nat → Option TI} {ρ : Ren} {G : Nat} {w0 : Base} {w : World} {F : Nat → Prop} {ro : RO} {hp : Hp}

theorem Rel.drew (h : Rel w0 F G ro ρ hp w) : Rel w0 F G ro ρ hp w.drew := Rel.draw h _
/-- A block gets a new number. -/
theorem Rel.rename (h : Rel w0 F G ro ρ hp w) {id : Nat} {b : Blk} {x : Nat × Nat} (h1 : hp.m.get id = some b) (h2 : ρ id = some x) (hl : hp.nxt < hp.lim) (b' : Blk) {hp' : Hp}
    (hget : ∀ j, hp'.m.get j = if j = hp.nxt then some b' else if j = id then none else hp.m.get j) (hn : hp'.nxt = hp.nxt + 1) (hlm : hp'.lim = hp.lim)
    {o : Obj} (ho : w.heap[x.1]? = some o) (hb : BR ρ x.2 b' o) :
    Rel w0 F G ro (ρ.ext hp.nxt x) hp' w := by
  have hfr := h.fresh hp.nxt (Nat.le_refl _) hl
  have hle : ρ.le (ρ.ext hp.nxt x) := Ren.le_ext hfr
  have hro := h.sep id b h1
  have hne : id ≠ hp.nxt := fun e => by rw [← e, h2] at hfr; cases hfr
  have none_at : hp.at ro hp.nxt = none := by
    cases e : hp.at ro hp.nxt with
    | none => rfl
    | some b => obtain ⟨_, _, _, e1, _⟩ := h.blk _ _ e; rw [hfr] at e1; cases e1
  have ro_none : ro hp.nxt = none := by
    unfold Hp.at at none_at
    split at none_at
    · cases none_at
    · exact none_at
  have at' : ∀ j, hp'.at ro j = if j = hp.nxt then some b' else if j = id then none else hp.at ro j := fun j => by
    simp only [Hp.at, hget]
    by_cases e : j = hp.nxt
    · rw [if_pos e, if_pos e]
    · rw [if_neg e, if_neg e]
      by_cases e2 : j = id
      · rw [if_pos e2, if_pos e2]; subst e2; exact hro
      · rw [if_neg e2, if_neg e2]
  have hat : hp.at ro id = some b := by simp [Hp.at, h1]
  obtain ⟨B, tot, o2, g1, g2, g3, g4⟩ := h.blk id b hat
  have hx : x = (B, tot) := by rw [h2] at g1; exact Option.some.inj g1
  subst hx
  have g4 : F B ∨ w0.heap.size ≤ B := g4.resolve_left (by rw [h1]; simp)
  have old : ∀ k, k ≠ hp.nxt → (ρ.ext hp.nxt (B, tot)) k = ρ k := fun k hk => by simp [Ren.ext, hk]
  refine ⟨fun j c hj => ?_, fun i j c c' B1 t1 t2 hi hj r1 r2 => ?_, fun j c hj => ?_, fun j hj hj2 => ?_, h.frame, h.size, h.tape, h.os, h.output, fun g hg => ?_, fun id' x' hx' => ?_, ?_⟩
  · rw [at'] at hj
    split at hj
    · rename_i e; subst e
      injection hj with hj; subst hj
      exact ⟨B, tot, o, Ren.ext_same, ho, BR.mono hle _ _ hb, .inr g4⟩
    · rename_i e
      split at hj <;> try contradiction
      obtain ⟨B1, t1, o1, r1, r2, r3, r4⟩ := h.blk j c hj
      exact ⟨B1, t1, o1, by rw [old _ e]; exact r1, r2, BR.mono hle _ _ r3, by rw [hget, if_neg e, if_neg (by assumption)]; exact r4⟩
  · rw [at'] at hi hj
    split at hi <;> split at hj
    · omega
    · rename_i e1 e2
      subst e1
      rw [Ren.ext_same] at r1
      obtain ⟨rfl, rfl⟩ := Prod.mk.inj (Option.some.inj r1)
      split at hj <;> try contradiction
      rename_i e3
      rw [old _ e2] at r2
      exact absurd (h.inj _ _ _ _ _ _ _ hj hat r2 g1) e3
    · rename_i e1 e2
      subst e2
      rw [Ren.ext_same] at r2
      obtain ⟨rfl, rfl⟩ := Prod.mk.inj (Option.some.inj r2)
      split at hi <;> try contradiction
      rename_i e3
      rw [old _ e1] at r1
      exact absurd (h.inj _ _ _ _ _ _ _ hi hat r1 g1) e3
    · rename_i e1 e2
      split at hi <;> try contradiction
      split at hj <;> try contradiction
      rw [old _ e1] at r1
      rw [old _ e2] at r2
      exact h.inj _ _ _ _ _ _ _ hi hj r1 r2
  · rw [hget] at hj
    split at hj
    · rename_i e; subst e; exact ro_none
    · split at hj
      · cases hj
      · exact h.sep _ _ hj
  · rw [hn] at hj; rw [hlm] at hj2
    rw [old _ (by omega)]
    exact h.fresh j (by omega) hj2
  · obtain ⟨t, ht⟩ := h.glob g hg
    exact ⟨t, hle _ _ ht⟩
  · have hn0 := h.le0
    unfold Ren.ext at hx'
    split at hx'
    · rename_i e; subst e; exact .inr ⟨hn0, by omega⟩
    · rcases h.ren id' x' hx' with h1 | h1
      · exact .inl h1
      · exact .inr ⟨h1.1, by omega⟩
  · have hn0 := h.le0
    omega

theorem run_append_in {st xt e ty : TypeId} {d : TypeDesc} {ei : TI} (ht : TyOK P ti) (hti : ti e = some ei) (hu : P.underlying st = some (.slice e)) (hx : P.underlying xt = some d) (hd : isIntD d = false)
    {b : Value} {n : Nat} {l : List Value} (hl : (Builtin.lenOf b).run P w = .ok n w) (hf : (Builtin.firstCells ei.size n b).run P w = .ok ⟨l⟩ w)
    {B no len cap : Nat} {w' : World} (hcap : len + n ≤ cap) (hst : (storeCells ⟨B, no + len * ei.size, none⟩ l).run P w = .ok () w') :
    (Builtin.append_ #[st, xt] ty #[.slice (some ⟨B, no, none⟩) len cap, b]).run P w = .ok (.slice (some ⟨B, no, none⟩) (len + n) cap) w' := by
  have ha : (⟨B, no, none⟩ : Addr).add (len * ei.size) = ⟨B, no + len * ei.size, none⟩ := by unfold Addr.add; split <;> simp_all
  have hs := ht.run_size hti w
  simp only [Builtin.append_, List.getElem?_toArray, List.getElem?_cons_zero, List.getElem?_cons_succ, Sem.run_bind, run_und' hu, Result.andThen_ok, hs, run_und' hx, Sem.run_pure]
  cases d <;> first | (cases hd; done) | simp only [Bool.false_eq_true, if_false, Sem.run_bind, hl, Result.andThen_ok, hcap, if_true, Bool.not_false, hf, ha, hst, Sem.run_pure]
theorem run_append_new {st xt e ty : TypeId} {d : TypeDesc} {ei : TI} {z : List V} (ht : TyOK P ti) (hti : ti e = some ei) (hu : P.underlying st = some (.slice e)) (hx : P.underlying xt = some d) (hd : isIntD d = false) (hz : zeroCellsV ei = some z)
    {b : Value} {n : Nat} {l old : List Value} (hl : (Builtin.lenOf b).run P w = .ok n w) (hf : (Builtin.firstCells ei.size n b).run P w.drew = .ok ⟨l⟩ w.drew)
    {base : Option Addr} {len cap : Nat} (hcap : ¬ len + n ≤ cap) (hold : (Builtin.firstCells ei.size len (.slice base len cap)).run P w.drew = .ok ⟨old⟩ w.drew)
    (h63 : len + n ≤ 4611686018427387904) (hfit : Builtin.nextslicecap (len + n) cap * ei.bytes ≤ 281474976710656) :
    ∃ k rest, len + n ≤ k ∧ k ≤ maxLen ∧ rest.length = (k - (len + n)) * ei.size ∧
      (Builtin.append_ #[st, xt] ty #[.slice base len cap, b]).run P w = .ok (.slice (some ⟨w.heap.size, 0, none⟩) (len + n) k) { w.drew with heap := w.drew.heap.push (.cells ⟨old ++ l ++ rest⟩ e) } := by
  have hs := ht.run_size hti w
  obtain ⟨zv, z1, z2, z3, z4, z5, z6⟩ := zeroCellsV_sound (P := P) (ρ := fun _ => none) ht hti hz
  obtain ⟨f, f1, f2, f3, f4⟩ := ht.run_info hti
  have h63'' : ¬ (((len + n : Nat) : Int) > IntKind.i64.max) := by
    have : IntKind.i64.max = 9223372036854775807 := by decide
    omega
  have h48 : ¬ (Builtin.nextslicecap (len + n) cap * ei.bytes > 2 ^ 48) := by omega
  have hold' : (Builtin.firstCells ei.size len (.slice base len cap)).run P { w with drawn := w.drawn + 1 } = .ok ⟨old⟩ { w with drawn := w.drawn + 1 } := hold
  have hf' : (Builtin.firstCells ei.size n b).run P { w with drawn := w.drawn + 1 } = .ok ⟨l⟩ { w with drawn := w.drawn + 1 } := hf
  refine ⟨grownCap w (len + n) cap e, (Builtin.zeroCells zv.cells (grownCap w (len + n) cap e - (len + n))).toList, grownCap_ge w (len + n) cap e, grownCap_le_maxLen w (len + n) cap e (by simp only [maxLen]; omega), ?_, ?_⟩
  · simp [Builtin.zeroCells, z3]
  · simp only [Builtin.append_, List.getElem?_toArray, List.getElem?_cons_zero, List.getElem?_cons_succ, Sem.run_bind, run_und' hu, Result.andThen_ok, hs, run_und' hx, Sem.run_pure]
    cases d <;> first | (cases hd; done) | skip
    all_goals
      simp only [Bool.false_eq_true, if_false, Sem.run_bind, hl, Result.andThen_ok, hcap, f4, f2, if_true, Bool.not_false, Sem.run_pure, false_or, h63'', false_and, h48, run_choose, Question.forced, run_askRoom, hold', hf', z1]
      have e1 : (⟨old ++ l ++ (Builtin.zeroCells zv.cells (grownCap w (len + n) cap e - (len + n))).toList⟩ : Array Value) = ⟨old⟩ ++ ⟨l⟩ ++ Builtin.zeroCells zv.cells (grownCap w (len + n) cap e - (len + n)) := by apply Array.ext'; simp
      rw [e1]
      rfl
theorem appendNew_sound (hr : Rel w0 F G ro ρ hp w) {es n : Nat} {all : List V} {r : V} {hp' : Hp} {vals rest : List Value} {e : TypeId} {k : Nat} (hv : VRs ρ all vals) (h : (appendNew hp es n all).run = some (r, hp'))
    (hn : vals.length = n * es) (hk : n ≤ k) (hk2 : k ≤ maxLen) (hrest : rest.length = (k - n) * es) :
    ∃ ρ', ρ.le ρ' ∧ VR ρ' r (.slice (some ⟨w.heap.size, 0, none⟩) n k) ∧ Rel w0 F G ro ρ' hp' { w with heap := w.heap.push (.cells ⟨vals ++ rest⟩ e) } := by
  obtain ⟨p, h3, h4⟩ := T.run_bind_some h
  rw [T.run_ofOpt] at h3
  obtain ⟨hlim, rfl⟩ := newV_eq h3
  injection h4 with h4; injection h4 with h5 h6; subst h5; subst h6
  have hle : ρ.le (ρ.ext hp.nxt (w.heap.size, k * es)) := Ren.le_ext (hr.fresh hp.nxt (Nat.le_refl _) hlim)
  have hlen : (vals ++ rest).length = k * es := by
    rw [List.length_append, hn, hrest, ← Nat.add_mul]; congr 1; omega
  refine ⟨_, hle, ⟨_, _, 0, n, k, Ren.ext_same, rfl, IR.lit 0, IR.lit _, Int.ofNat_le.2 hk, ?_, hk, by omega⟩, hr.new hlim ⟨vals, rest, e, (0, 0), rfl, VRs.mono hle _ _ hv, hlen, unfrozen_zero _⟩⟩
  simp only [maxLen] at hk2
  simp only [big63]
  omega
theorem isIntT_sound (ht : TyOK P ti) {t : TypeId} (h : isIntT ti t = false) : ∃ d, P.underlying t = some d ∧ isIntD d = false := by
  unfold isIntT at h
  split at h <;> try contradiction
  rename_i i hi
  exact ⟨_, ht.und _ _ hi, h⟩
theorem shown_len {heap : Nat → Option Blk} {es b n : Nat} {o len : I} {clo chi : Int} {cs : List V} (h : shown heap es (.slice b es o len clo chi) = some (n, cs)) : cs.length = n * es := by
  simp only [shown] at h
  split at h <;> try contradiction
  split at h <;> try contradiction
  split at h <;> try contradiction
  split at h <;> try contradiction
  split at h <;> try contradiction
  rename_i hc
  simp only [Bool.and_eq_true] at hc
  have hc2 := Nat.le_of_ble_eq_true hc.2
  injection h with h; injection h with h1 h2; subst h1; subst h2
  rw [List.length_take, List.length_drop]; omega
theorem shown_at {heap : Nat → Option Blk} {es b n o' m : Nat} {o len : I} {clo chi : Int} {cs : List V} {blk : Blk} (h : shown heap es (.slice b es o len clo chi) = some (n, cs)) (hb : heap b = some blk) (ho : litI o = some o') (hm : litI len = some m) :
    ∃ bc, blkCells blk = some bc ∧ o' + m * es ≤ bc.length ∧ cs = (bc.drop o').take (m * es) := by
  simp only [shown] at h
  simp only [hb] at h
  split at h <;> try contradiction
  rename_i bc hbc
  simp only [ho, hm] at h
  split at h <;> try contradiction
  rename_i hc
  simp only [Bool.and_eq_true] at hc
  have hc2 := Nat.le_of_ble_eq_true hc.2
  injection h with h; injection h with h1 h2; subst h1; subst h2
  exact ⟨bc, hbc, hc2, rfl⟩
theorem appendSl_sound (ht : TyOK P ti) (hr : Rel w0 F G ro ρ hp w) {st xt e ty : TypeId} {d : TypeDesc} {ei : TI} {z : List V} (hti : ti e = some ei) (hu : P.underlying st = some (.slice e)) (hx : P.underlying xt = some d) (hd : isIntD d = false)
    (hz : zeroCellsV ei = some z) {b es : Nat} {o len : I} {clo chi : Int} {n : Nat} {new : List V} {r : V} {hp' : Hp} {a x : Value} {l : List Value}
    (ha : VR ρ (.slice b es o len clo chi) a) (hlen' : ∀ w, (Builtin.lenOf x).run P w = .ok n w) (hf' : ∀ w' : World, w'.heap = w.heap → (Builtin.firstCells ei.size n x).run P w' = .ok ⟨l⟩ w') (hlv : VRs ρ new l)
    (hnew : new.length = n * ei.size) (hone : allOne new = true) (h : (appendSl ro hp ei b es o len clo chi n new).run = some (r, hp')) :
    ∃ v w' ρ', ρ.le ρ' ∧ (Builtin.append_ #[st, xt] ty #[a, x]).run P w = .ok v w' ∧ VR ρ' r v ∧ Rel w0 F G ro ρ' hp' w' := by
  unfold appendSl at h
  split at h <;> try (cases h; done)
  rename_i o' ho
  split at h <;> try (cases h; done)
  rename_i m hm
  split at h <;> try (cases h; done)
  rename_i hes
  have hes := Nat.eq_of_beq_eq_true hes
  subst hes
  have haV := ha
  obtain ⟨B, tot, no, nl, cap, g1, rfl, g2, g3, g4, g5, g6, g7⟩ := ha
  have e1 := litI_sound ho g2
  have e2 := litI_sound hm g3
  subst e1; subst e2
  have hlen := hlen' w
  have hf := hf' w rfl
  have hll := hlv.length
  split at h
  · rename_i hcl
    rw [ile_iff] at hcl
    have hcap : nl + n ≤ cap := by omega
    unfold appendIn at h
    have hin : nl * ei.size + n * ei.size ≤ cap * ei.size := by rw [← Nat.add_mul]; exact Nat.mul_le_mul_right _ hcap
    split at h <;> try (cases h; done)
    · rename_i cs hblk
      split at h <;> try (cases h; done)
      rename_i hfit
      have hfit := Nat.le_of_ble_eq_true hfit
      injection h with h; injection h with h1 h2; subst h1; subst h2
      have hat : hp.at ro b = some (.cells cs) := by simp [Hp.at, hblk]
      obtain ⟨B', tot', ob, k1, k2, k3, _⟩ := hr.blk b _ hat
      rw [g1] at k1
      obtain ⟨rfl, rfl⟩ := Prod.mk.inj (Option.some.inj k1)
      obtain ⟨row, t, fz, rfl, q1, q2, q3⟩ := k3
      have hrl := q1.length
      refine ⟨_, _, ρ, Ren.le.refl _, run_append_in ht hti hu hx hd hlen hf hcap (run_storeCells l 0 w row k2 (by omega) (by rw [q2]; exact q3) (allOne_sound hlv hone)), ?_, hr.put hblk g1 ⟨_, t, fz, rfl, q1.splice hlv, ?_, q3⟩⟩
      · exact ⟨B, tot, no, nl + n, cap, g1, rfl, g2, IR.lit _, g4, g5, hcap, g7⟩
      · rw [Nat.add_zero, splice_length (by omega), q2]
    · rename_i cs hblk
      split at h <;> try (cases h; done)
      rename_i hfit
      have hfit := Nat.le_of_ble_eq_true hfit
      injection h with h; injection h with h1 h2; subst h1; subst h2
      have hat : hp.at ro b = some (.vec cs) := by simp [Hp.at, hblk]
      obtain ⟨B', tot', ob, k1, k2, k3, _⟩ := hr.blk b _ hat
      rw [g1] at k1
      obtain ⟨rfl, rfl⟩ := Prod.mk.inj (Option.some.inj k1)
      obtain ⟨row, row', t, fz, rfl, q1, q2, q3⟩ := k3
      have hrl := q1.length
      have hrr : (row ++ row').length = row.length + row'.length := List.length_append
      refine ⟨_, _, ρ, Ren.le.refl _, run_append_in ht hti hu hx hd hlen hf hcap (run_storeCells l 0 w (row ++ row') k2 (by omega) (by rw [q2]; exact q3) (allOne_sound hlv hone)), ?_, hr.put hblk g1 ⟨splice row (no + nl * ei.size) l, row'.drop (no + nl * ei.size + l.length - row.length), t, fz, ?_, q1.splice hlv, ?_, q3⟩⟩
      · exact ⟨B, tot, no, nl + n, cap, g1, rfl, g2, IR.lit _, g4, g5, hcap, g7⟩
      · congr 2
        simp only [splice, Nat.add_zero]
        rw [List.take_append_of_le_length (by omega), List.drop_append]
        simp
      · simp only [splice, List.length_append, List.length_take, List.length_drop]
        omega
  · rename_i hncl
    split at h <;> try (cases h; done)
    rename_i hb
    simp only [Bool.and_eq_true] at hb
    have hb1 := Nat.le_of_ble_eq_true hb.1
    have hb2 := Nat.le_of_ble_eq_true hb.2
    split at h <;> try (cases h; done)
    rename_i n' old hold
    have grown : ¬ nl + n ≤ cap → ∃ k rest lold, nl + n ≤ k ∧ k ≤ maxLen ∧ rest.length = (k - (nl + n)) * ei.size ∧ VRs ρ (old ++ new) (lold ++ l) ∧ (lold ++ l).length = (nl + n) * ei.size ∧
        (Builtin.append_ #[st, xt] ty #[.slice (some ⟨B, no, none⟩) nl cap, x]).run P w = .ok (.slice (some ⟨w.heap.size, 0, none⟩) (nl + n) k) { w.drew with heap := w.drew.heap.push (.cells ⟨lold ++ l ++ rest⟩ e) } := by
      intro hcap
      obtain ⟨hl2, lold, hf2, hv2⟩ := shown_sound (P := P) hr haV hold
      have hnn : n' = nl := by have := hl2 w; simp only [Builtin.lenOf, Sem.run_pure] at this; injection this with h1; exact h1.symm
      subst hnn
      obtain ⟨k, rest, c1, c2, c3, c4⟩ := run_append_new (ty := ty) ht hti hu hx hd hz hlen (hf' w.drew rfl) hcap (hf2 w.drew rfl) hb2 (by
        refine Nat.le_trans (Nat.mul_le_mul_right _ (nextslicecap_le (by omega))) (Nat.le_trans (Nat.mul_le_mul_right _ ?_) hb1)
        omega)
      have hv2l := hv2.length
      refine ⟨k, rest, lold, c1, c2, c3, hv2.append hlv, ?_, c4⟩
      have hol := shown_len hold
      rw [List.length_append, hv2l, hol, hll, hnew, Nat.add_mul]
    split at h
    · rename_i hchi
      rw [ile_iff] at hchi
      obtain ⟨k, rest, lold, c1, c2, c3, c4, c5, c6⟩ := grown (by omega)
      obtain ⟨ρ', d1, d2, d3⟩ := appendNew_sound (e := e) hr.drew c4 h c5 c1 c2 c3
      exact ⟨_, _, ρ', d1, c6, d2, d3⟩
    · split at h <;> try (cases h; done)
      rename_i blk hblk
      split at h <;> try (cases h; done)
      rename_i hcond
      simp only [Bool.and_eq_true] at hcond
      have ho0 := Nat.eq_of_beq_eq_true hcond.1
      have hbig := hcond.2
      rw [ile_iff] at hbig
      by_cases hcap : nl + n ≤ cap
      · subst ho0
        obtain ⟨p, h3, h4⟩ := T.run_bind_some h
        rw [T.run_ofOpt] at h3
        obtain ⟨hlim, rfl⟩ := newV_eq h3
        injection h4 with h4; injection h4 with h5 h6; subst h5; subst h6
        have hat : hp.at ro b = some blk := by simp [Hp.at, hblk]
        have hin : nl * ei.size + n * ei.size ≤ cap * ei.size := by rw [← Nat.add_mul]; exact Nat.mul_le_mul_right _ hcap
        obtain ⟨cs, hcs, hfit, hold'⟩ := shown_at hold hat ho hm
        obtain ⟨B', tot', ob, k1, k2, k3, _⟩ := hr.blk b _ hat
        rw [g1] at k1
        obtain ⟨rfl, rfl⟩ := Prod.mk.inj (Option.some.inj k1)
        obtain ⟨row, row', t, fz, rfl, q1, q2, q3⟩ := blkCells_sound hcs k3
        have hrl := q1.length
        have hrr : (row ++ row').length = row.length + row'.length := List.length_append
        have hrun := run_append_in (st := st) (xt := xt) (ty := ty) (B := B) (no := 0) (len := nl) ht hti hu hx hd hlen hf hcap (run_storeCells (B := B) (o := 0 + nl * ei.size) l 0 w (row ++ row') k2 (by omega) (by rw [q2]; exact q3) (allOne_sound hlv hone))
        have hbr : BR ρ tot (.vec (old ++ new)) (.cells ⟨splice (row ++ row') (0 + nl * ei.size + 0) l⟩ t fz) := by
          refine ⟨row.take (nl * ei.size) ++ l, (row ++ row').drop (nl * ei.size + l.length), t, fz, ?_, ?_, ?_, q3⟩
          · congr 2
            simp only [splice, Nat.add_zero, Nat.zero_add]
            rw [List.take_append_of_le_length (by omega)]
            simp
          · rw [hold']
            exact (q1.take _).append hlv
          · simp only [List.length_append, List.length_take, List.length_drop]
            omega
        have hput := hr.put hblk g1 (b' := .vec (old ++ new)) hbr
        have hren := hput.rename (id := b) (x := (B, tot)) (b := .vec (old ++ new)) (hp' := (hp.put b none).new (.vec (old ++ new))) (by simp [Hp.put, Tr.get_set]) g1 hlim (.vec (old ++ new)) (fun j => by
            simp only [Hp.new, Hp.put, Tr.get_set]
            split
            · rfl
            · split <;> rfl) rfl rfl (by rw [heap_putB (lt_of_heap k2), if_pos rfl]) hbr
        refine ⟨_, _, _, Ren.le_ext (hr.fresh hp.nxt (Nat.le_refl _) hlim), hrun, ?_, hren⟩
        refine ⟨B, tot, 0, nl + n, cap, Ren.ext_same, rfl, IR.lit 0, IR.lit _, Int.ofNat_le.2 hcap, Int.le_trans g5 hbig, hcap, g7⟩
      · obtain ⟨k, rest, lold, c1, c2, c3, c4, c5, c6⟩ := grown hcap
        obtain ⟨ρ', d1, d2, d3⟩ := appendNew_sound (e := e) (Rel.drop hr.drew hblk) c4 h c5 c1 c2 c3
        exact ⟨_, _, ρ', d1, c6, d2, d3⟩
end
end Go.Ev
