/- Own text: that the abstract operations say what the model's do: slices. -/
import Derived.Test.YtoeipbkoeclbeaaEvSd4
namespace Go.Ev
section
variable {P : Program} {ti : Nat → Option TI} {ρ : Ren} {G : Nat} {w0 : Base} {w : World} {F : Nat → Prop} {ro : RO} {hp : Hp}
theorem repeatL_length {α : Type} (l : List α) : ∀ n, (repeatL l n).length = n * l.length
  | 0 => by simp [repeatL]
  | n + 1 => by simp [repeatL, repeatL_length l n, Nat.succ_mul, Nat.add_comm]
theorem repeatL_get {α : Type} (l : List α) : ∀ (n i : Nat), i < n * l.length → (repeatL l n)[i]? = l[i % l.length]?
  | 0, i, h => by simp at h
  | n + 1, i, h => by
    simp only [repeatL]
    rw [Nat.succ_mul] at h
    by_cases hi : i < l.length
    · rw [List.getElem?_append_left hi, Nat.mod_eq_of_lt hi]
    · rw [List.getElem?_append_right (by omega), repeatL_get l n _ (by omega)]
      congr 1
      have : i = (i - l.length) + l.length := by omega
      conv => rhs; rw [this, Nat.add_mod_right]
theorem VRs.repeatL {cs : List V} {l : List Value} (h : VRs ρ cs l) : ∀ n, VRs ρ (repeatL cs n) (Ev.repeatL l n)
  | 0 => rfl
  | n + 1 => h.append (VRs.repeatL h n)
theorem range_repeat (z : List Value) (n : Nat) : (Array.range (n * z.length)).map (fun i => (⟨z⟩ : Array Value)[i % z.length]!) = ⟨repeatL z n⟩ := by
  apply Array.ext_getElem?
  intro i
  by_cases hi : i < n * z.length
  · have hz : 0 < z.length := by
      rcases Nat.eq_zero_or_pos z.length with h | h
      · rw [h] at hi; omega
      · exact h
    have hm := Nat.mod_lt i hz
    have e : (⟨repeatL z n⟩ : Array Value)[i]? = some z[i % z.length] := by
      rw [get_toList, repeatL_get z n i hi, List.getElem?_eq_getElem hm]
    rw [e, Array.getElem?_map, Array.getElem?_range, if_pos hi]
    simp [hm]
  · rw [Array.getElem?_eq_none (by simp; omega), get_toList, List.getElem?_eq_none (by rw [repeatL_length]; omega)]
theorem zeroCellsV_sound (ht : TyOK P ti) {e : TypeId} {ei : TI} {z : List V} (hei : ti e = some ei) (h : zeroCellsV ei = some z) :
    ∃ zv, (∀ w, (zeroValue e).run P w = .ok zv w) ∧ VRs ρ z zv.cells.toList ∧ zv.cells.size = ei.size ∧ z.length = ei.size ∧ allOne z = true ∧ 1 ≤ ei.size := by
  unfold zeroCellsV at h
  split at h <;> try contradiction
  rename_i zv hz
  split at h <;> try contradiction
  rename_i zV hzV
  split at h <;> try contradiction
  rename_i hc
  simp only [Bool.and_eq_true] at hc
  obtain ⟨⟨h1, h2⟩, h3⟩ := hc
  injection h with h; subst h
  have hv := constV_sound (ρ := ρ) hzV
  have hone : zV.one = true ∨ ∃ cs, zV = .agg cs := by
    cases zV <;> simp_all [V.cells, allOne, V.one]
  have hcs := V.cells_sound hv hone
  have e1 := Nat.eq_of_beq_eq_true h1
  refine ⟨zv, fun w => ht.run_zero hei hz w, hcs, ?_, e1, h2, Nat.le_of_ble_eq_true h3⟩
  have := hcs.length
  rw [Array.length_toList] at this
  omega
theorem allOne_append {a b : List V} : allOne (a ++ b) = (allOne a && allOne b) := by
  induction a with
  | nil => simp [allOne]
  | cons x a ih => simp [allOne, ih, Bool.and_assoc]
theorem buildSliceV_sound (ht : TyOK P ti) (hr : Rel w0 F G ro ρ hp w) {t : TypeId} {len : Nat} {parts : List (Nat × V)} {rparts : List (Nat × Value)} {r : V} {hp' : Hp} (h1 : parts.map (·.1) = rparts.map (·.1)) (h2 : VRs ρ (parts.map (·.2)) (rparts.map (·.2)))
    (h : (buildSliceV ti hp t len parts).run = some (r, hp')) : ∃ v w' ρ', ρ.le ρ' ∧ (Instr.buildSlice t len rparts.toArray).run P w = .ok v w' ∧ VR ρ' r v ∧ Rel w0 F G ro ρ' hp' w' := by
  unfold buildSliceV at h
  split at h <;> try (cases h; done)
  rename_i ei hei
  obtain ⟨e, hu, hti⟩ := slOf_sound (P := P) ht hei
  split at h <;> try (cases h; done)
  rename_i z hz
  obtain ⟨zv, z1, z2, z3, z4, z5, z6⟩ := zeroCellsV_sound (P := P) (ρ := ρ) ht hti hz
  split at h <;> try (cases h; done)
  rename_i hbig
  have hbig := Nat.le_of_ble_eq_true hbig
  split at h <;> try (cases h; done)
  rename_i cs hcs
  split at h <;> try (cases h; done)
  rename_i hone
  obtain ⟨p, h3, h4⟩ := T.run_bind_some h
  rw [T.run_ofOpt] at h3
  obtain ⟨hl, rfl⟩ := newV_eq h3
  injection h4 with h4; injection h4 with h5 h6; subst h5; subst h6
  have hzr := z2.repeatL len
  obtain ⟨ol, e1, e2⟩ := fillV_sound hzr h1 h2 hcs
  obtain ⟨e3, e4⟩ := run_newRow (P := P) hr hl e2 e
  have hol : ol.length = len * ei.size := by
    -- fill keeps the length
    have keep : ∀ (ps : List (Nat × Value)) (c o : Array Value), Instr.fill (fun k => some (k * ei.size, ei.size)) c ps = some o → o.size = c.size := by
      intro ps
      induction ps with
      | nil => intro c o h; simp only [Instr.fill, Option.some.injEq] at h; rw [h]
      | cons p ps ih =>
        intro c o h
        obtain ⟨i, v⟩ := p
        simp only [Instr.fill] at h
        split at h
        · cases h
        · have := ih _ _ h
          rw [this]
          have hf : ∀ (l : List (Value × Nat)) (c : Array Value), (l.foldl (fun cs (p : Value × Nat) => cs.setIfInBounds (i * ei.size + p.2) p.1) c).size = c.size := by
            intro l
            induction l with
            | nil => intro c; rfl
            | cons a l ih => intro c; rw [List.foldl_cons, ih]; simp
          rw [← Array.foldl_toList]
          exact hf _ _
    have := keep _ _ _ e1
    simp only [List.size_toArray] at this
    rw [this, repeatL_length, Array.length_toList, z3]
  refine ⟨.slice (some ⟨w.heap.size, 0, none⟩) len len, _, _, Ren.le_ext (hr.fresh hp.nxt (Nat.le_refl _) hl), ?_, ?_, e4⟩
  · simp only [Instr.buildSlice, Sem.run_bind, run_und' hu, Result.andThen_ok, ht.run_size hti]
    rw [if_neg (by omega)]
    by_cases h0 : len * ei.size = 0
    · have hlen0 : len = 0 := by
        rcases Nat.mul_eq_zero.1 h0 with h | h
        · exact h
        · omega
      subst hlen0
      rw [if_pos h0]
      have he : (Array.map (fun x => (#[] : Array Value)[x % (#[] : Array Value).size]!) (Array.range (0 * ei.size))) = ⟨repeatL zv.cells.toList 0⟩ := by simp [repeatL]
      simp only [Sem.run_bind, Sem.run_pure, Result.andThen_ok, he, e1]
      rw [e3]; rfl
    · rw [if_neg h0]
      have he : (Array.map (fun x => zv.cells[x % zv.cells.size]!) (Array.range (len * ei.size))) = ⟨repeatL zv.cells.toList len⟩ := by
        have := range_repeat zv.cells.toList len
        rw [Array.length_toList, z3] at this
        rw [← this, z3]
      simp only [Sem.run_bind, z1, Sem.run_pure, Result.andThen_ok, he, e1]
      rw [e3]; rfl
  · refine ⟨_, _, 0, len, len, Ren.ext_same, rfl, IR.lit 0, IR.lit _, Int.le_refl _, Int.le_refl _, Nat.le_refl _, ?_⟩
    rw [hol]; omega
theorem litI_sound {i : I} {n m : Nat} (h : litI i = some n) (hi : IR i m) : m = n := by
  unfold litI at h
  split at h <;> try contradiction
  rename_i hc; simp only [Bool.and_eq_true, ieq_iff, ile_iff] at hc
  injection h with h
  obtain ⟨h1, h2, h3⟩ := hi
  omega
theorem litI_int {i : I} {n : Nat} {m : Int} (h : litI i = some n) (hi : IR i m) : m = n := by
  unfold litI at h
  split at h <;> try contradiction
  rename_i hc; simp only [Bool.and_eq_true, ieq_iff, ile_iff] at hc
  injection h with h
  obtain ⟨h1, h2, h3⟩ := hi
  omega
theorem makeSliceV_sound (ht : TyOK P ti) (hr : Rel w0 F G ro ρ hp w) {t : TypeId} {l c : I} {x y : Int} {k1 k2 : IntKind} {r : V} {hp' : Hp} (hl : IR l x) (hc : IR c y)
    (h : (makeSliceV ti hp t l c).run = some (r, hp')) : ∃ v w' ρ', ρ.le ρ' ∧ (Instr.makeSlice t (.int k1 x) (.int k2 y)).run P w = .ok v w' ∧ VR ρ' r v ∧ Rel w0 F G ro ρ' hp' w' := by
  unfold makeSliceV at h
  split at h <;> try (cases h; done)
  rename_i ei hei
  obtain ⟨e, hu, hti⟩ := slOf_sound (P := P) ht hei
  split at h <;> try (cases h; done)
  rename_i z hz
  obtain ⟨zv, z1, z2, z3, z4, z5, z6⟩ := zeroCellsV_sound (P := P) (ρ := ρ) ht hti hz
  split at h <;> try (cases h; done)
  rename_i n hn
  split at h <;> try (cases h; done)
  rename_i m hm
  split at h <;> try (cases h; done)
  rename_i hcond
  simp only [Bool.and_eq_true] at hcond
  obtain ⟨⟨c1, c2⟩, c3⟩ := hcond
  have c1 := Nat.le_of_ble_eq_true c1
  have c2 := Nat.le_of_ble_eq_true c2
  have c3 := Nat.le_of_ble_eq_true c3
  obtain ⟨p, h3, h4⟩ := T.run_bind_some h
  rw [T.run_ofOpt] at h3
  obtain ⟨hlim, rfl⟩ := newV_eq h3
  injection h4 with h4; injection h4 with h5 h6; subst h5; subst h6
  have ex := litI_int hn hl
  have ey := litI_int hm hc
  subst ex; subst ey
  obtain ⟨f, f1, f2, f3, f4⟩ := ht.run_info hti
  have hle : ρ.le (ρ.ext hp.nxt (w.heap.size, m * ei.size)) := Ren.le_ext (hr.fresh hp.nxt (Nat.le_refl _) hlim)
  have hrel : Rel w0 F G ro (ρ.ext hp.nxt (w.heap.size, m * ei.size)) (hp.new (zeroRow z m)) { w with heap := w.heap.push (.cells ⟨repeatL zv.cells.toList m⟩ e) } := by
    refine hr.new hlim ?_
    have hlen : (repeatL zv.cells.toList m).length = m * ei.size := by rw [repeatL_length, Array.length_toList, z3]
    have plain : BR (ρ.ext hp.nxt (w.heap.size, m * ei.size)) (m * ei.size) (.cells (repeatL z m)) (.cells ⟨repeatL zv.cells.toList m⟩ e) :=
      ⟨_, e, (0, 0), rfl, VRs.mono hle _ _ (z2.repeatL m), hlen, unfrozen_zero _⟩
    unfold zeroRow
    split
    · rename_i k i
      split
      · rename_i hz2
        simp only [Bool.and_eq_true, isZero, ieq_iff] at hz2
        obtain ⟨v, vs, e1, ⟨q, rfl, hq⟩, e3⟩ := z2
        simp only [VRs] at e3; subst e3
        have hq0 : q = 0 := by have := hq.2; omega
        subst hq0
        have hs1 : ei.size = 1 := by rw [← z4]; rfl
        refine ⟨_, e, (0, 0), rfl, hlen, by rw [hs1]; omega, fun j hj => ⟨?_, Int.le_refl _, Int.le_refl _⟩, unfrozen_zero _⟩
        rw [e1, repeatL_get _ _ _ (by simpa using hj)]
        simp [Nat.mod_one]
      · exact plain
    · exact plain
  refine ⟨.slice (some ⟨w.heap.size, 0, none⟩) n m, _, _, hle, ?_, ?_, hrel⟩
  · have ww : ∀ a : Nat, a ≤ 4611686018427387904 → IntKind.i64.wrap (a : Int) = a := fun a ha => wrap_id (k := .i64) (by simp only [kmin]; omega) (by simp only [kmax]; omega)
    have w1 := ww n (by omega)
    have w2 := ww m c3
    have hb : f.bytes * m ≤ 281474976710656 := by rw [f2]; exact c2
    have hb' : ¬ ((f.bytes : Int) * (m : Int) > 2 ^ 48) := by
      have h1 : ((f.bytes * m : Nat) : Int) ≤ ((281474976710656 : Nat) : Int) := Int.ofNat_le.2 hb
      have h2 : ((f.bytes * m : Nat) : Int) = (f.bytes : Int) * (m : Int) := by simp
      have h3 : ((2 : Int) ^ 48) = 281474976710656 := by decide
      omega
    simp only [Instr.makeSlice, Sem.run_bind, run_und' hu, Result.andThen_ok, asInt, asIntOf, Sem.run_pure, f4, w1, w2]
    have hcnd : (((decide ((m : Int) < 0) || decide ((f.bytes : Int) * (m : Int) > 2 ^ 48)) || decide ((n : Int) < 0)) || decide ((n : Int) > (m : Int))) = false := by
      have d1 : decide ((m : Int) < 0) = false := decide_eq_false (by omega)
      have d2 := decide_eq_false hb'
      have d3 : decide ((n : Int) < 0) = false := decide_eq_false (by omega)
      have d4 : decide ((n : Int) > (m : Int)) = false := decide_eq_false (by omega)
      rw [d1, d2, d3, d4]; rfl
    rw [hcnd]
    simp only [Bool.false_eq_true, if_false, Sem.run_bind, Sem.run_pure, Result.andThen_ok, run_askRoom, Int.toNat_natCast, ht.run_size hti]
    by_cases h0 : m * ei.size = 0
    · have hlen0 : m = 0 := by
        rcases Nat.mul_eq_zero.1 h0 with h | h
        · exact h
        · omega
      subst hlen0
      rw [if_pos h0]
      have he : (Array.map (fun x => (#[] : Array Value)[x % (#[] : Array Value).size]!) (Array.range (0 * ei.size))) = ⟨repeatL zv.cells.toList 0⟩ := by simp [repeatL]
      simp only [Sem.run_bind, Sem.run_pure, Result.andThen_ok, he]
      rfl
    · rw [if_neg h0]
      have he : (Array.map (fun x => zv.cells[x % zv.cells.size]!) (Array.range (m * ei.size))) = ⟨repeatL zv.cells.toList m⟩ := by
        have := range_repeat zv.cells.toList m
        rw [Array.length_toList, z3] at this
        rw [← this, z3]
      simp only [Sem.run_bind, z1, Sem.run_pure, Result.andThen_ok, he]
      rfl
  · refine ⟨_, _, 0, n, m, Ren.ext_same, rfl, IR.lit 0, IR.lit _, Int.le_refl _, Int.le_refl _, c1, ?_⟩
    omega
theorem isStrT_sound (ht : TyOK P ti) {t : TypeId} (h : isStrT ti t = true) : P.underlying t = some .string := by
  unfold isStrT at h
  split at h <;> try contradiction
  rename_i d hd
  have := ht.und _ _ hd
  cases hu : d.und <;> rw [hu] at h <;> simp only [isStrD, Bool.false_eq_true] at h
  rw [hu] at this; exact this
theorem leB_sound {a b : I} {x y : Int} (ha : IR a x) (hb : IR b y) (h : (leB a b).run = some ()) : x ≤ y := by
  obtain ⟨rfl, a1, a2⟩ := ha
  obtain ⟨rfl, b1, b2⟩ := hb
  unfold leB at h
  split at h
  · rename_i hc; rw [ile_iff] at hc; omega
  · simp only [T.run] at h
    by_cases hc : a.n ≤ b.n
    · exact hc
    · rw [decide_eq_false hc] at h; simp at h
/-- An operand of a slice expression, if there is one. -/
def OR (o : Option I) (v : Option Value) : Prop := match o, v with
  | none, none => True
  | some i, some x => ∃ k n, x = .int k n ∧ IR i n
  | _, _ => False
theorem run_sliceBound {k : IntKind} {n y : Nat} {c : BoundsCode} (h : n ≤ y) (w : World) : (Instr.sliceBound (.int k n) y c).run P w = .ok n w := by
  have hc : (0 : Int) ≤ (n : Int) ∧ (n : Int) ≤ (y : Int) := by omega
  simp only [Instr.sliceBound, Sem.run_bind, asIntOf, Sem.run_pure, Result.andThen_ok]
  rw [if_pos hc]; rfl
/-- The bound that an operand names: its own, or what stands where there is none. -/
def bnd (v : Option Value) (n d : Nat) : Prop := match v with
  | none => n = d
  | some x => ∃ k, x = .int k (n : Int)
theorem run_sliceBounds {b : Bool} {len cap ln hn : Nat} {lo hi : Option Value} (hh : bnd hi hn len) (hl : bnd lo ln 0) (h1 : hn ≤ cap) (h2 : ln ≤ hn) (w : World) :
    (Instr.sliceBounds b len cap lo hi none).run P w = .ok (ln, hn, cap) w := by
  cases hi with
  | none =>
    cases hh
    cases lo with
    | none => cases hl; simp [Instr.sliceBounds]
    | some v => obtain ⟨k, rfl⟩ := hl; simp [Instr.sliceBounds, run_sliceBound h2]
  | some u =>
    obtain ⟨k, rfl⟩ := hh
    cases lo with
    | none => cases hl; simp [Instr.sliceBounds, run_sliceBound h1]
    | some v => obtain ⟨k, rfl⟩ := hl; simp [Instr.sliceBounds, run_sliceBound h2, run_sliceBound h1]
/-- A bound that is no number from 0 on does not come. -/
theorem OR.bnd {o : Option I} {v : Option Value} {d : I} {dn : Nat} (h : OR o v) (hd : IR d dn) (h0 : 0 ≤ (orI o d).lo) : ∃ n : Nat, Ev.bnd v n dn ∧ IR (orI o d) n := by
  cases o with
  | none => cases v with
    | none => exact ⟨dn, rfl, hd⟩
    | some x => exact h.elim
  | some i => cases v with
    | none => exact h.elim
    | some x =>
      obtain ⟨k, n, rfl, hn⟩ := h
      have hn0 : 0 ≤ n := by have := hn.2.1; simp only [orI] at h0; omega
      obtain ⟨m, rfl⟩ := Int.eq_ofNat_of_zero_le hn0
      exact ⟨m, ⟨k, rfl⟩, hn⟩
theorem sliceV_sound (ht : TyOK P ti) {t : TypeId} {x r : V} {a : Value} {l h : Option I} {lo hi : Option Value} (hx : VR ρ x a) (hl : OR l lo) (hh : OR h hi) (hs : (sliceV ti t x l h).run = some r) (w : World) :
    ∃ v, (Instr.sliceAt t a lo hi none).run P w = .ok v w ∧ VR ρ r v := by
  unfold sliceV at hs
  split at hs
  · rename_i s
    obtain ⟨rfl, hb⟩ := hx
    split at hs <;> try (cases hs; done)
    rename_i hst
    have hu := isStrT_sound (P := P) ht hst
    unfold sliceStr at hs
    split at hs <;> try (cases hs; done)
    rename_i hc
    simp only [Bool.and_eq_true, ieq_iff, ile_iff] at hc
    obtain ⟨⟨⟨⟨c1, c2⟩, c3⟩, c4⟩, c5⟩ := hc
    injection hs with hs; subst hs
    obtain ⟨ln, l1, l2⟩ := hl.bnd (d := I.lit 0) (dn := 0) (IR.lit 0) c3
    obtain ⟨hn, h1, h2⟩ := hh.bnd (d := I.lit s.length) (dn := s.length) (IR.lit _) (by omega)
    have el : (orI l (I.lit 0)).lo.toNat = ln := by have := l2.1; have := l2.2; omega
    have eh : (orI h (I.lit s.length)).lo.toNat = hn := by have := h2.1; have := h2.2; omega
    have hsz : (⟨⟨s.map byteOf⟩⟩ : ByteArray).size = s.length := by simp [ByteArray.size]
    refine ⟨.string ⟨⟨((s.take hn).drop ln).map byteOf⟩⟩, ?_, by rw [el, eh], fun i hi => hb i ?_⟩
    · simp only [Instr.sliceAt, Sem.run_bind, run_und' hu, Result.andThen_ok, Instr.slice, Option.isSome_none, Bool.false_eq_true, if_false, Sem.run_pure]
      rw [hsz, run_sliceBounds (P := P) h1 l1 (by omega) (by omega)]
      simp only [Result.andThen_ok, Sem.run_pure]
      congr 2
      apply ByteArray.ext
      rw [ByteArray.data_extract]
      simp [List.extract_eq_take_drop, List.map_take, List.map_drop, List.drop_take]
    · rw [el, eh] at hi; exact List.mem_of_mem_take (List.mem_of_mem_drop hi)
  · rename_i b es o len clo chi
    split at hs <;> try (cases hs; done)
    rename_i ei hei
    obtain ⟨e, hu, hti⟩ := slOf_sound (P := P) ht hei
    split at hs <;> try (cases hs; done)
    rename_i hes
    have hes := Nat.eq_of_beq_eq_true hes
    obtain ⟨B, tot, n, ln0, cap, g1, rfl, g2, g3, g4, g5, g6, g7⟩ := hx
    unfold sliceSl at hs
    split at hs <;> try (cases hs; done)
    rename_i hc
    simp only [Bool.and_eq_true, ile_iff] at hc
    obtain ⟨⟨c1, c2⟩, c3⟩ := hc
    obtain ⟨u1, s1, s2⟩ := T.run_bind_some hs
    obtain ⟨u2, s3, s4⟩ := T.run_bind_some s2
    injection s4 with s4; subst s4
    obtain ⟨ln, l1, l2⟩ := hl.bnd (d := I.lit 0) (dn := 0) (IR.lit 0) c1
    obtain ⟨hn, h1, h2⟩ := hh.bnd (d := len) (dn := ln0) g3 c2
    have k1 := leB_sound h2 (b := ⟨clo, clo, clo⟩) (y := clo) ⟨rfl, Int.le_refl _, Int.le_refl _⟩ s1
    have k2 := leB_sound l2 h2 s3
    have hlc : ln < cap := by have := l2.2; omega
    refine ⟨.slice (some ⟨B, n + ln * es, none⟩) (hn - ln) (cap - ln), ?_, B, tot, _, _, _, g1, rfl, g2.sumI (l2.mulI es), ?_, ?_, ?_, ?_, ?_⟩
    · simp only [Instr.sliceAt, Sem.run_bind, run_und' hu, Result.andThen_ok, Instr.slice]
      rw [run_sliceBounds (P := P) h1 l1 (by omega) (by omega)]
      simp only [Result.andThen_ok, Sem.run_bind, ht.run_size hti, Sem.run_pure, Option.map_some, hes]
      rw [if_neg (by omega)]
      congr 3
      unfold Addr.add
      split
      · rename_i e0; rw [e0]; rfl
      · rfl
    · refine IR.mk' ?_ ?_ ?_
      · have := h2.1; have := l2.1; omega
      · have := h2.2; have := l2.2
        rcases imax_cases 0 ((orI h len).lo - (orI l (I.lit 0)).hi) with e1 | e1 <;> rw [e1] <;> omega
      · have := h2.2; have := l2.2; omega
    · have := l2.2; omega
    · have := l2.2; omega
    · omega
    · have e1 : (cap - ln) * es = cap * es - ln * es := Nat.sub_mul _ _ _
      have e2 : ln * es ≤ cap * es := Nat.mul_le_mul_right es (by omega)
      omega
  · split at hs <;> try (cases hs; done)
    rename_i ei hei
    obtain ⟨e, hu, hti⟩ := slOf_sound (P := P) ht hei
    split at hs <;> try (cases hs; done)
    rename_i hc
    simp only [Bool.and_eq_true, isZero, ieq_iff] at hc
    obtain ⟨⟨c1, c2⟩, c3, c4⟩ := hc
    injection hs with hs; subst hs
    simp only [VR] at hx; subst hx
    obtain ⟨ln, l1, l2⟩ := hl.bnd (d := I.lit 0) (dn := 0) (IR.lit 0) (by omega)
    obtain ⟨hn, h1, h2⟩ := hh.bnd (d := I.lit 0) (dn := 0) (IR.lit 0) (by omega)
    have hl0 : ln = 0 := by have := l2.2; omega
    have hh0 : hn = 0 := by have := h2.2; omega
    subst hl0; subst hh0
    refine ⟨.slice none 0 0, ?_, rfl⟩
    simp only [Instr.sliceAt, Sem.run_bind, run_und' hu, Result.andThen_ok, Instr.slice]
    rw [run_sliceBounds (P := P) h1 l1 (by omega) (by omega)]
    simp only [Result.andThen_ok, Sem.run_bind, ht.run_size hti, Sem.run_pure]
    rfl
  · cases hs

/-! ### what a slice shows; append -/
theorem blkCells_sound {blk : Blk} {cs : List V} {tot : Nat} {o : Obj} (h : blkCells blk = some cs) (hb : BR ρ tot blk o) : ∃ l l' t fz, o = .cells ⟨l ++ l'⟩ t fz ∧ VRs ρ cs l ∧ (l ++ l').length = tot ∧ unfrozen fz tot := by
  cases blk <;> simp only [blkCells, Option.some.injEq, reduceCtorEq] at h
  · subst h
    obtain ⟨l, t, fz, rfl, h1, h2, h3⟩ := hb
    exact ⟨l, [], t, fz, by simp, h1, by simpa using h2, h3⟩
  · subst h
    obtain ⟨l, l', t, fz, rfl, h1, h2, h3⟩ := hb
    exact ⟨l, l', t, fz, rfl, h1, h2, h3⟩
theorem shown_sound (hr : Rel w0 F G ro ρ hp w) {es n : Nat} {x : V} {a : Value} {cs : List V} (hx : VR ρ x a) (h : shown (hp.at ro) es x = some (n, cs)) :
    (∀ w, (Builtin.lenOf a).run P w = .ok n w) ∧ ∃ l, (∀ w' : World, w'.heap = w.heap → (Builtin.firstCells es n a).run P w' = .ok ⟨l⟩ w') ∧ VRs ρ cs l := by
  unfold shown at h
  split at h
  · injection h with h; injection h with h1 h2; subst h1; subst h2
    simp only [VR] at hx; subst hx
    exact ⟨fun _ => rfl, [], fun _ _ => rfl, rfl⟩
  · rename_i s
    split at h <;> try contradiction
    rename_i he
    injection h with h; injection h with h1 h2; subst h1; subst h2
    obtain ⟨rfl, hb⟩ := hx
    refine ⟨fun w => ?_, (s.map byteOf).map (fun b => .int .u8 b.toNat), fun w' _ => ?_, ?_⟩
    · simp [Builtin.lenOf, ByteArray.size]
    · simp only [Builtin.firstCells, Sem.run_pure]
      congr 1
      rw [ByteArray.data_extract]
      simp
      try exact List.take_of_length_le (by simp)
    · clear he
      induction s with
      | nil => rfl
      | cons i s ih =>
        have hi := hb i (by simp)
        exact ⟨_, _, rfl, ⟨_, rfl, (byteOf_toNat hi), by rw [byteOf_toNat hi]; exact hi.2.1, by rw [byteOf_toNat hi]; exact hi.2.2.1⟩, ih (fun j hj => hb j (by simp [hj]))⟩
  · rename_i b es' o len clo chi
    split at h <;> try contradiction
    rename_i blk hblk
    split at h <;> try contradiction
    rename_i bc hbc
    split at h <;> try contradiction
    rename_i o' ho
    split at h <;> try contradiction
    rename_i m hm
    split at h <;> try contradiction
    rename_i hc
    simp only [Bool.and_eq_true] at hc
    have hc1 := Nat.eq_of_beq_eq_true hc.1
    have hc2 := Nat.le_of_ble_eq_true hc.2
    injection h with h; injection h with h1 h2; subst h1; subst h2
    obtain ⟨B, tot, no, nl, cap, g1, rfl, g2, g3, _⟩ := hx
    have e1 := litI_sound ho g2
    have e2 := litI_sound hm g3
    subst e1; subst e2
    obtain ⟨B', tot', ob, k1, k2, k3, _⟩ := hr.blk b blk hblk
    rw [g1] at k1
    obtain ⟨rfl, rfl⟩ := Prod.mk.inj (Option.some.inj k1)
    obtain ⟨l, l', t, fz, rfl, q1, q2, q3⟩ := blkCells_sound hbc k3
    have hl := q1.length
    refine ⟨fun _ => rfl, ((l ++ l').drop no).take (nl * es), fun w' hw' => ?_, ?_⟩
    · simp only [Builtin.firstCells]
      exact run_loadCells (by rw [hw']; exact k2) (by rw [List.length_append]; omega)
    · have e2 : ((l ++ l').drop no).take (nl * es) = (l.drop no).take (nl * es) := by
        rw [List.drop_append_of_le_length (by omega), List.take_append_of_le_length (by rw [List.length_drop]; omega)]
      rw [e2]
      exact (q1.drop _).take _
  · cases h
theorem lenV_sound (ht : TyOK P ti) {t : TypeId} {x r : V} {a : Value} (hx : VR ρ x a) (h : lenV ti t x = some r) (ty : TypeId) (ts : List TypeId) (as : List Value) (w : World) :
    ∃ v, (Builtin.len_ ⟨t :: ts⟩ ty ⟨a :: as⟩).run P w = .ok v w ∧ VR ρ r v := by
  unfold lenV at h
  split at h <;> try contradiction
  rename_i i hi
  have hu := ht.und _ _ hi
  unfold lenOfV at h
  split at h
  · rename_i hd; rw [hd] at hu
    split at h <;> try contradiction
    injection h with h; subst h
    obtain ⟨rfl, hb⟩ := hx
    refine ⟨_, by simp only [Builtin.len_, Sem.run_bind, List.getElem?_toArray, List.getElem?_cons_zero, run_und' hu, Result.andThen_ok, Sem.run_pure]; rfl, _, rfl, ?_⟩
    simp [ByteArray.size]; exact IR.lit _
  · rename_i hd; rw [hd] at hu
    injection h with h; subst h
    refine ⟨_, ?_, _, rfl, IR.lit _⟩
    simp only [Builtin.len_, Sem.run_bind, List.getElem?_toArray, List.getElem?_cons_zero, run_und' hu, Result.andThen_ok]
    cases a <;> rfl
  · rename_i hd; rw [hd] at hu
    split at h
    · injection h with h; subst h
      simp only [VR] at hx; subst hx
      exact ⟨_, by simp only [Builtin.len_, Sem.run_bind, List.getElem?_toArray, List.getElem?_cons_zero, run_und' hu, Result.andThen_ok, Sem.run_pure]; rfl, _, rfl, IR.lit 0⟩
    · injection h with h; subst h
      obtain ⟨B, tot, no, nl, cap, g1, rfl, g2, g3, _⟩ := hx
      exact ⟨_, by simp only [Builtin.len_, Sem.run_bind, List.getElem?_toArray, List.getElem?_cons_zero, run_und' hu, Result.andThen_ok, Sem.run_pure]; rfl, _, rfl, g3⟩
    · cases h
  · rename_i hd; rw [hd] at hu
    split at h <;> try contradiction
    rename_i n ei hn
    obtain ⟨e, h3, h4⟩ := arrOf_sound (P := P) ht hn
    injection h with h; subst h
    refine ⟨_, ?_, _, rfl, IR.lit n⟩
    simp only [Builtin.len_, Sem.run_bind, List.getElem?_toArray, List.getElem?_cons_zero, run_und' hu, Result.andThen_ok]
    cases a <;> simp only [Sem.run_bind, run_und' h3, Result.andThen_ok] <;> rfl
  · cases h
end
end Go.Ev
