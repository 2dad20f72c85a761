/- Own text: that the abstract operations say what the model's do: one operand, places, parts. -/
import Derived.Test.YtoeipbkoeclbeaaEvSd2
namespace Go.Ev
section
variable {P : Program} {ti : Nat → Option TI} {ρ : Ren} {G : Nat}
theorem ba_get (s : List UInt8) (n : Nat) (h : n < s.length) : (⟨⟨s⟩⟩ : ByteArray)[n]? = some s[n] := by
  have hs : n < (⟨⟨s⟩⟩ : ByteArray).size := h
  have : (⟨⟨s⟩⟩ : ByteArray)[n]? = some ((⟨⟨s⟩⟩ : ByteArray)[n]) := getElem?_pos (⟨⟨s⟩⟩ : ByteArray) n hs
  rw [this]; rfl
theorem unV_sound {op : UnOp} {x r : V} {a : Value} (hx : VR ρ x a) (h : unV op x = some r) (w : World) : ∃ v, (Op.unary op a).run P w = .ok v w ∧ VR ρ r v := by
  unfold unV at h
  split at h
  · have hb : ∃ b, a = .bool b := by
      cases x <;> simp only [notV, reduceCtorEq] at h
      all_goals exact ⟨_, hx⟩
    obtain ⟨b, rfl⟩ := hb
    exact ⟨.bool !b, by simp [Op.unary], notV_sound hx h⟩
  · split at h
    · injection h with h; subst h
      obtain ⟨n, rfl, hn⟩ := hx
      exact ⟨_, by simp only [Op.unary, Op.intArith]; rfl, _, rfl, IR.isub (IR.lit 0) hn⟩
    · cases h
  · split at h
    · injection h with h; subst h
      rename_i k _
      obtain ⟨n, rfl, hn⟩ := hx
      refine ⟨_, by simp only [Op.unary, Op.intBits]; rfl, _, rfl, ?_⟩
      have e : k.max = kmax k := by cases k <;> rfl
      rw [e]
      exact IR.ixor (IR.lit _) hn
    · cases h
  · cases h
theorem convV_sound (ht : TyOK P ti) {s d : TypeId} {x r : V} {a : Value} (hx : VR ρ x a) (h : convV ti s d x = some r) (w : World) : ∃ v, (convert s d a).run P w = .ok v w ∧ VR ρ r v := by
  unfold convV at h
  split at h <;> try contradiction
  rename_i si hs
  split at h <;> try contradiction
  rename_i di hd
  split at h
  · obtain ⟨n, rfl, hn⟩ := hx
    unfold convI at h
    split at h
    · rename_i k hk
      injection h with h; subst h
      obtain ⟨rfl, h1, h2⟩ := hn
      refine ⟨.int k (k.wrap _), ?_, _, rfl, IR.wrapI h1 h2⟩
      simp only [convert, Sem.run_bind, ht.run_und hs, ht.run_und hd, Result.andThen_ok, hk]
      cases si.und <;> rfl
    · rename_i hk
      split at h <;> try contradiction
      rename_i hl
      simp only [Bool.and_eq_true, ieq_iff, ile_iff] at hl
      obtain ⟨⟨h1, h2⟩, h3⟩ := hl
      injection h with h; subst h
      obtain ⟨rfl, h4, h5⟩ := hn
      rename_i i _ _
      have hb : 0 ≤ i.lo ∧ i.lo ≤ i.n ∧ i.n ≤ i.hi ∧ i.hi ≤ 255 := by omega
      refine ⟨.string (Utf8.encode i.n), ?_, ?_, ?_⟩
      · simp only [convert, Sem.run_bind, ht.run_und hs, ht.run_und hd, Result.andThen_ok, hk]
        cases si.und <;> rfl
      · congr 1
        have h1 : Utf8.valid i.n = true := by simp [Utf8.valid]; omega
        have h2 : i.n.toNat < 128 := by omega
        simp only [Utf8.encode, h1, if_true, h2]
        rfl
      · intro j hj
        simp only [List.mem_singleton] at hj
        subst hj; exact hb
    · cases h
  · obtain ⟨hc, rfl⟩ := onlyIf_some h
    obtain ⟨rfl, hb⟩ := hx
    cases hu : di.und <;> rw [hu] at hc <;> simp only [isStrD, Bool.false_eq_true] at hc
    refine ⟨_, ?_, rfl, hb⟩
    simp only [convert, Sem.run_bind, ht.run_und hs, ht.run_und hd, Result.andThen_ok, hu]
    cases si.und <;> rfl
  · cases h

/-! ### places -/
theorem IR.off {o : I} {n : Nat} (h : IR o n) (k : Nat) : IR (offI o k) ((n + k : Nat) : Int) := by
  obtain ⟨h1, h2, h3⟩ := h
  unfold offI
  split
  · rename_i e; have e := Nat.eq_of_beq_eq_true e; subst e; exact ⟨h1, h2, h3⟩
  · exact IR.mk' (by omega) (by omega) (by omega)
theorem IR.mulI {i : I} {n : Nat} (h : IR i n) (k : Nat) : IR (mulI i k) ((n * k : Nat) : Int) := by
  obtain ⟨h1, h2, h3⟩ := h
  unfold Ev.mulI
  split
  · rename_i e; have e := Nat.eq_of_beq_eq_true e; subst e; exact ⟨by omega, by omega, by omega⟩
  · refine IR.mk' ?_ ?_ ?_
    · rw [← h1]; simp
    · have := Int.mul_le_mul_of_nonneg_right h2 (show (0 : Int) ≤ k by omega)
      push_cast; exact this
    · have := Int.mul_le_mul_of_nonneg_right h3 (show (0 : Int) ≤ k by omega)
      push_cast; exact this
theorem IR.sumI {a b : I} {n m : Nat} (h : IR a n) (h' : IR b m) : IR (sumI a b) ((n + m : Nat) : Int) := by
  obtain ⟨h1, h2, h3⟩ := h
  obtain ⟨h4, h5, h6⟩ := h'
  unfold Ev.sumI
  split
  · rename_i e; simp only [Bool.and_eq_true, ieq_iff] at e
    exact ⟨by omega, by omega, by omega⟩
  · exact IR.mk' (by omega) (by omega) (by omega)
theorem within_sound {i len r : I} {x y : Int} (hi : IR i x) (hl : IR len y) (h : (within i len).run = some r) : 0 ≤ x ∧ x < y ∧ IR r x := by
  obtain ⟨rfl, h1, h2⟩ := hi
  obtain ⟨rfl, h3, h4⟩ := hl
  unfold within at h
  split at h
  · rename_i hc; simp only [Bool.and_eq_true, ile_iff] at hc
    simp only [T.run, Option.some.injEq] at h; subst h
    exact ⟨by omega, by omega, rfl, h1, h2⟩
  · simp only [T.run] at h
    by_cases hc : 0 ≤ i.n ∧ i.n < len.n
    · rw [decide_eq_true hc] at h
      simp only [cond_true, Option.some.injEq] at h; subst h
      refine ⟨hc.1, hc.2, IR.mk' rfl ?_ ?_⟩
      · rcases imax_cases 0 i.lo with e | e <;> rw [e] <;> omega
      · rcases imin_cases i.hi (len.hi - 1) with e | e <;> rw [e] <;> omega
    · rw [decide_eq_false hc] at h
      simp at h
theorem fieldOf_sound (ht : TyOK P ti) {s : TypeId} {f : Nat} {fd : Field} (h : fieldOf ti s f = some fd) : ∃ fs : Array Field, (∀ w, (underlying s).run P w = .ok (.struct fs) w) ∧ fs[f]? = some fd := by
  unfold fieldOf at h
  split at h <;> try contradiction
  rename_i i hi
  split at h <;> try contradiction
  rename_i fs hfs
  exact ⟨fs, fun w => by rw [ht.run_und hi, hfs], by simpa using h⟩
theorem fieldAddrV_sound (ht : TyOK P ti) {s : TypeId} {x r : V} {f : Nat} {a : Value} (hx : VR ρ x a) (h : fieldAddrV ti s x f = some r) (w : World) : ∃ v, (Instr.fieldAt s a f).run P w = .ok v w ∧ VR ρ r v := by
  unfold fieldAddrV at h
  split at h <;> try contradiction
  split at h <;> try contradiction
  rename_i fd hfd
  split at h <;> try contradiction
  rename_i j hj
  split at h <;> try contradiction
  rename_i hz
  injection h with h; subst h
  obtain ⟨fs, h1, h2⟩ := fieldOf_sound (P := P) ht hfd
  obtain ⟨B, tot, n, h3, rfl, h4⟩ := hx
  have hz' := Nat.ne_of_beq_eq_false hz
  refine ⟨.pointer (some ⟨B, n + fd.offset, none⟩), ?_, B, tot, _, h3, rfl, h4.off _⟩
  simp only [Instr.fieldAt, Sem.run_bind, h1, Result.andThen_ok, h2, Instr.sureAddr, Sem.run_pure, fieldPlace, ht.run_size hj, hz', if_false, Addr.add]
  split
  · rename_i e; rw [e]; rfl
  · rfl
theorem arrOf_sound (ht : TyOK P ti) {t : TypeId} {n : Nat} {ei : TI} (h : arrOf ti t = some (n, ei)) : ∃ e, P.underlying t = some (.array n e) ∧ ti e = some ei := by
  unfold arrOf at h
  split at h <;> try contradiction
  rename_i i hi
  split at h <;> try contradiction
  rename_i n' e he
  split at h <;> try contradiction
  rename_i ei' hei
  injection h with h; injection h with h1 h2; subst h1; subst h2
  exact ⟨e, by rw [ht.und _ _ hi, he], hei⟩
theorem slOf_sound (ht : TyOK P ti) {t : TypeId} {ei : TI} (h : slOf ti t = some ei) : ∃ e, P.underlying t = some (.slice e) ∧ ti e = some ei := by
  unfold slOf at h
  split at h <;> try contradiction
  rename_i i hi
  split at h <;> try contradiction
  rename_i e he
  exact ⟨e, by rw [ht.und _ _ hi, he], h⟩
theorem run_und' {t : TypeId} {d : TypeDesc} (h : P.underlying t = some d) (w : World) : (underlying t).run P w = .ok d w := by simp [underlying, h]
theorem indexAddrV_sound (ht : TyOK P ti) {t : TypeId} {x i r : V} {a b : Value} (hx : VR ρ x a) (hi : VR ρ i b) (h : (indexAddrV ti t x i).run = some r) (w : World) : ∃ v, (Instr.indexAt t a b).run P w = .ok v w ∧ VR ρ r v := by
  unfold indexAddrV at h
  split at h
  · obtain ⟨m, rfl, hm⟩ := hi
    split at h
    · split at h
      · rename_i n ei hn
        obtain ⟨r', h1, h2⟩ := T.run_bind_some h
        injection h2 with h2; subst h2
        obtain ⟨e, h3, h4⟩ := arrOf_sound (P := P) ht hn
        obtain ⟨B, tot, o, h5, rfl, h6⟩ := hx
        obtain ⟨w1, w2, w3⟩ := within_sound hm (IR.lit _) h1
        obtain ⟨m, rfl⟩ := Int.eq_ofNat_of_zero_le w1
        refine ⟨.pointer (some ⟨B, o + m * ei.size, none⟩), ?_, B, tot, _, h5, rfl, h6.sumI (w3.mulI _)⟩
        have hc : (0 : Int) ≤ (m : Int) ∧ (m : Int) < (n : Int) := ⟨w1, w2⟩
        simp only [Instr.indexAt, Sem.run_bind, asIntOf, Sem.run_pure, Result.andThen_ok, run_und' h3, Instr.sureAddr]
        rw [if_pos hc]
        simp only [Sem.run_bind, ht.run_size h4, Result.andThen_ok, Sem.run_pure, Int.toNat_natCast, Addr.add]
        split
        · rename_i e; rw [e]; rfl
        · rfl
      · cases h
    · split at h
      · rename_i ei hn
        obtain ⟨r', h1, h2⟩ := T.run_bind_some h
        injection h2 with h2; subst h2
        obtain ⟨e, h3, h4⟩ := slOf_sound (P := P) ht hn
        obtain ⟨B, tot, o, len, cap, h5, rfl, h6, h7, _⟩ := hx
        obtain ⟨w1, w2, w3⟩ := within_sound hm h7 h1
        obtain ⟨m, rfl⟩ := Int.eq_ofNat_of_zero_le w1
        refine ⟨.pointer (some ⟨B, o + m * ei.size, none⟩), ?_, B, tot, _, h5, rfl, h6.sumI (w3.mulI _)⟩
        have hc : (0 : Int) ≤ (m : Int) ∧ (m : Int) < (len : Int) := ⟨w1, w2⟩
        simp only [Instr.indexAt, Sem.run_bind, asIntOf, Sem.run_pure, Result.andThen_ok, run_und' h3]
        rw [if_pos hc]
        simp only [Sem.run_bind, ht.run_size h4, Result.andThen_ok, Sem.run_pure, Int.toNat_natCast, Addr.add]
        split
        · rename_i e; rw [e]; rfl
        · rfl
      · cases h
    · cases h
  · cases h
theorem partV_sound (ht : TyOK P ti) {t : TypeId} {cs : List V} {l : List Value} {off : Nat} {r : V} (hl : VRs ρ cs l) (h : partV ti t cs off = some r) (w : World) : ∃ v, (part t ⟨l⟩ off).run P w = .ok v w ∧ VR ρ r v := by
  have key : ∀ i : TI, ti t = some i → isAggD i.und = true → ∃ v, (part t ⟨l⟩ off).run P w = .ok v w ∧ VR ρ (.agg ((cs.drop off).take i.size)) v := fun i hi ha => by
    refine ⟨.agg ⟨(l.drop off).take i.size⟩, ?_, _, rfl, (hl.drop off).take i.size⟩
    simp only [part, Sem.run_bind, ht.run_agg hi, ha, Result.andThen_ok, if_true, ht.run_size hi, Sem.run_pure]
    congr 2
    simp [List.extract_eq_take_drop]
  unfold partV at h
  split at h <;> try contradiction
  rename_i i hi
  split at h
  · injection h with h; subst h; rename_i hu; exact key i hi (by rw [hu]; rfl)
  · injection h with h; subst h; rename_i hu; exact key i hi (by rw [hu]; rfl)
  · rename_i hu1 hu2
    have ha : isAggD i.und = false := by
      cases hu : i.und <;> simp_all [isAggD]
    obtain ⟨v, hv, hr⟩ := hl.get h
    refine ⟨v, ?_, hr⟩
    simp [part, ht.run_agg hi, ha, hv]
theorem fieldV_sound (ht : TyOK P ti) {t : TypeId} {x r : V} {f : Nat} {a : Value} (hx : VR ρ x a) (h : fieldV ti t x f = some r) (w : World) : ∃ v, (Instr.field t a f).run P w = .ok v w ∧ VR ρ r v := by
  unfold fieldV at h
  split at h <;> try contradiction
  split at h <;> try contradiction
  rename_i fd hfd
  obtain ⟨l, rfl, hl⟩ := hx
  obtain ⟨fs, h1, h2⟩ := fieldOf_sound (P := P) ht hfd
  obtain ⟨v, hv, hr⟩ := partV_sound (P := P) ht hl h w
  exact ⟨v, by simp only [Instr.field, Sem.run_bind, h1, Result.andThen_ok, h2, asAgg, Sem.run_pure, hv], hr⟩
theorem intsOf_sound {k : IntKind} : ∀ {cs : List V} {is : List I} {l : List Value}, intsOf k cs = some is → VRs ρ cs l → l = is.map (fun i => .int k i.n) ∧ (∀ i ∈ is, i.lo ≤ i.n ∧ i.n ≤ i.hi) ∧ is.length = cs.length
  | [], _, l, h, hl => by injection h with h; subst h; simp only [VRs] at hl; subst hl; simp
  | .int k' i :: vs, is, l, h, hl => by
    unfold intsOf at h
    split at h <;> try contradiction
    rename_i hk
    have hk := of_decide_eq_true hk
    subst hk
    obtain ⟨is', h1, h2⟩ := Option.map_eq_some_iff.1 h
    subst h2
    obtain ⟨x, xs, rfl, ⟨n, rfl, hn⟩, h3⟩ := hl
    obtain ⟨e1, e2, e3⟩ := intsOf_sound h1 h3
    obtain ⟨rfl, h4, h5⟩ := hn
    refine ⟨by rw [e1]; rfl, fun j hj => ?_, by simp [e3]⟩
    rcases List.mem_cons.1 hj with h | h
    · subst h; exact ⟨h4, h5⟩
    · exact e2 j h
  | .any :: _, _, _, h, _ | .bool _ :: _, _, _, h, _ | .sbool _ :: _, _, _, h, _ | .str _ :: _, _, _, h, _ | .nilp :: _, _, _, h, _ | .ptr .. :: _, _, _, h, _ | .nils :: _, _, _, h, _ | .slice .. :: _, _, _, h, _
  | .nilm :: _, _, _, h, _ | .map _ :: _, _, _, h, _ | .func .. :: _, _, _, h, _ | .nilf :: _, _, _, h, _ | .iface .. :: _, _, _, h, _ | .nili :: _, _, _, h, _ | .agg _ :: _, _, _, h, _ | .tup _ :: _, _, _, h, _ => by cases h
theorem loHi : ∀ {l : List I} {i : I}, (∀ i ∈ l, i.lo ≤ i.n ∧ i.n ≤ i.hi) → i ∈ l → loOf l ≤ i.n ∧ i.n ≤ hiOf l
  | [], _, _, h => by cases h
  | [a], i, hl, h => by simp only [List.mem_singleton] at h; subst h; exact hl i (by simp)
  | a :: b :: l, i, hl, h => by
    have m1 := imin_le a.lo (loOf (b :: l))
    have m2 := le_imax a.hi (hiOf (b :: l))
    show imin a.lo (loOf (b :: l)) ≤ i.n ∧ i.n ≤ imax a.hi (hiOf (b :: l))
    rcases List.mem_cons.1 h with h | h
    · subst h; have := hl i (by simp); omega
    · have := loHi (fun j hj => hl j (by simp [hj])) h; omega
theorem pickI_sound {l : List I} {i r : I} {n : Nat} (hl : ∀ i ∈ l, i.lo ≤ i.n ∧ i.n ≤ i.hi) (hi : IR i n) (hn : n < l.length) (h : pickI l i = some r) : IR r (l[n]).n := by
  obtain ⟨h1, h2, h3⟩ := hi
  unfold pickI at h
  split at h
  · rename_i e; rw [ieq_iff] at e
    have : i.lo.toNat = n := by omega
    rw [this, List.getElem?_eq_getElem hn] at h
    injection h with h; subst h
    exact ⟨rfl, hl _ (List.getElem_mem hn)⟩
  · injection h with h; subst h
    have e : i.n.toNat = n := by omega
    have hb := loHi hl (List.getElem_mem hn)
    refine IR.mk' ?_ hb.1 hb.2
    rw [e, List.getD_eq_getElem?_getD, List.getElem?_map, List.getElem?_eq_getElem hn]
    rfl
theorem indexV_sound (ht : TyOK P ti) {t : TypeId} {x i r : V} {a b : Value} (hx : VR ρ x a) (hi : VR ρ i b) (h : (indexV ti t x i).run = some r) (w : World) : ∃ v, (Instr.index t a b).run P w = .ok v w ∧ VR ρ r v := by
  unfold indexV at h
  split at h
  · obtain ⟨m, rfl, hm⟩ := hi
    split at h
    · -- an array
      obtain ⟨l, rfl, hl⟩ := hx
      unfold indexAgg at h
      split at h <;> try (cases h; done)
      rename_i d hd
      split at h <;> try (cases h; done)
      rename_i n e hu
      split at h <;> try (cases h; done)
      rename_i hlen
      have hlen := Nat.eq_of_beq_eq_true hlen
      split at h <;> try (cases h; done)
      rename_i ei hei
      split at h
      · rename_i k hk
        split at h <;> try (cases h; done)
        rename_i hsz
        have hsz := Nat.eq_of_beq_eq_true hsz
        split at h <;> try (cases h; done)
        rename_i is his
        obtain ⟨r', h1, h2⟩ := T.run_bind_some h
        obtain ⟨v, h3, h4⟩ := T.run_bind_some h2
        injection h4 with h4; subst h4
        rw [T.run_ofOpt] at h3
        obtain ⟨e1, e2, e3⟩ := intsOf_sound his hl
        obtain ⟨w1, w2, w3⟩ := within_sound hm (IR.lit _) h1
        obtain ⟨m, rfl⟩ := Int.eq_ofNat_of_zero_le w1
        have hmn : m < is.length := by rw [e3, hlen]; omega
        have hr := pickI_sound e2 w3 hmn h3
        have hka : isAggD ei.und = false := by cases hue : ei.und <;> rw [hue] at hk <;> simp_all [kindOf, isAggD]
        refine ⟨.int k (is[m]).n, ?_, _, rfl, hr⟩
        have hc : (0 : Int) ≤ (m : Int) ∧ (m : Int) < (n : Int) := ⟨w1, w2⟩
        simp only [Instr.index, Sem.run_bind, asIntOf, Sem.run_pure, Result.andThen_ok, ht.run_und hd, hu]
        rw [if_pos hc]
        have hg : (⟨l⟩ : Array Value)[m * 1]? = some (.int k (is[m]).n) := by
          rw [e1]; simp [hmn]
        simp only [Sem.run_bind, ht.run_size hei, Result.andThen_ok, Int.toNat_natCast, part, ht.run_agg hei, hka, hsz, hg]
        rfl
      · obtain ⟨r', h1, h2⟩ := T.run_bind_some h
        split at h2 <;> try (cases h2; done)
        rename_i hl2; rw [ieq_iff] at hl2
        rw [T.run_ofOpt] at h2
        obtain ⟨w1, w2, w3⟩ := within_sound hm (IR.lit _) h1
        obtain ⟨m, rfl⟩ := Int.eq_ofNat_of_zero_le w1
        have e : r'.lo.toNat = m := by have := w3.1; have := w3.2; omega
        rw [e] at h2
        obtain ⟨v, hv, hr⟩ := partV_sound (P := P) ht hl h2 w
        refine ⟨v, ?_, hr⟩
        have hc : (0 : Int) ≤ (m : Int) ∧ (m : Int) < (n : Int) := ⟨w1, w2⟩
        simp only [Instr.index, Sem.run_bind, asIntOf, Sem.run_pure, Result.andThen_ok, ht.run_und hd, hu]
        rw [if_pos hc]
        simp only [Sem.run_bind, ht.run_size hei, Result.andThen_ok, Int.toNat_natCast, hv]
    · -- a string
      rename_i s
      obtain ⟨rfl, hb⟩ := hx
      split at h <;> try (cases h; done)
      rename_i hst
      unfold isStrT at hst
      split at hst <;> try contradiction
      rename_i d hd
      cases hu : d.und <;> rw [hu] at hst <;> simp only [isStrD, Bool.false_eq_true] at hst
      obtain ⟨r', h1, h2⟩ := T.run_bind_some h
      obtain ⟨v, h3, h4⟩ := T.run_bind_some h2
      injection h4 with h4; subst h4
      rw [T.run_ofOpt] at h3
      obtain ⟨w1, w2, w3⟩ := within_sound hm (IR.lit _) h1
      obtain ⟨m, rfl⟩ := Int.eq_ofNat_of_zero_le w1
      have hmn : m < s.length := by omega
      have hr := pickI_sound (fun i hi => ⟨(hb i hi).2.1, (hb i hi).2.2.1⟩) w3 hmn h3
      have hg := ba_get (s.map byteOf) m (by simpa using hmn)
      have hbn := byteOf_toNat (hb _ (List.getElem_mem hmn))
      refine ⟨.int .u8 (byteOf s[m]).toNat, ?_, _, rfl, by rw [hbn]; exact hr⟩
      simp only [Instr.index, Sem.run_bind, asIntOf, Sem.run_pure, Result.andThen_ok, ht.run_und hd, hu, if_pos w1, Int.toNat_natCast, hg, List.getElem_map]
    · cases h
  · cases h
end
end Go.Ev
