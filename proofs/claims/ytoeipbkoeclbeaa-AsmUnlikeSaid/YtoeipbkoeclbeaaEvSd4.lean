/- Own text: that the abstract operations say what the model's do: memory. -/
import Derived.Test.YtoeipbkoeclbeaaEvSd3
namespace Go.Ev
section
variable {P : Program} {ti : Nat → Option TI} {ρ : Ren} {G : Nat} {w0 : Base} {w : World} {F : Nat → Prop} {ro : RO} {hp : Hp}
theorem cell_of {B n : Nat} {c : Array Value} {t : TypeId} {fz : Nat × Nat} (h : w.heap[B]? = some (.cells c t fz)) : w.cell? ⟨B, n, none⟩ = c[n]? := by
  simp [World.cell?, h]
theorem frozen_of {B n : Nat} {c : Array Value} {t : TypeId} {fz : Nat × Nat} (h : w.heap[B]? = some (.cells c t fz)) : w.frozen? ⟨B, n, none⟩ = (decide (fz.1 ≤ n) && decide (n < fz.2)) := by
  simp [World.frozen?, h]
theorem run_load_cell {B n : Nat} {l : List Value} {t : TypeId} {fz : Nat × Nat} {v : Value} (h : w.heap[B]? = some (.cells ⟨l⟩ t fz)) (hv : l[n]? = some v) : (load ⟨B, n, none⟩).run P w = .ok v w := by
  rw [run_load, cell_of h]
  simp [hv]
theorem run_loadCellsFrom {B o : Nat} {l : List Value} {t : TypeId} {fz : Nat × Nat} (h : w.heap[B]? = some (.cells ⟨l⟩ t fz)) : ∀ (n i : Nat) (acc : Array Value), o + i + n ≤ l.length →
    (loadCellsFrom ⟨B, o, none⟩ i n acc).run P w = .ok (acc ++ ⟨(l.drop (o + i)).take n⟩) w
  | 0, i, acc, _ => by simp [loadCellsFrom]
  | n + 1, i, acc, hn => by
    have hlt : o + i < l.length := by omega
    have ha : (⟨B, o, none⟩ : Addr).add i = ⟨B, o + i, none⟩ := by unfold Addr.add; split <;> simp_all
    simp only [loadCellsFrom, Sem.run_bind, ha]
    rw [run_load_cell h (List.getElem?_eq_getElem hlt)]
    simp only [Result.andThen_ok]
    rw [run_loadCellsFrom h n (i + 1) _ (by omega)]
    congr 1
    rw [List.drop_eq_getElem_cons hlt]
    simp [Nat.add_assoc]
theorem run_loadCells {B o n : Nat} {l : List Value} {t : TypeId} {fz : Nat × Nat} (h : w.heap[B]? = some (.cells ⟨l⟩ t fz)) (hn : o + n ≤ l.length) : (loadCells ⟨B, o, none⟩ n).run P w = .ok ⟨(l.drop o).take n⟩ w := by
  unfold loadCells
  rw [run_loadCellsFrom h n 0 _ (by omega)]
  simp
theorem strsOf_sound : ∀ {cs : List V} {ss : List (List UInt8)} {l : List Value}, strsOf cs = some ss → VRs ρ cs l → l.map some = ss.map (fun s => some (.string ⟨⟨s⟩⟩))
  | [], ss, l, h, hv => by injection h with h; subst h; simp only [VRs] at hv; subst hv; rfl
  | v :: vs, ss, l, h, ⟨x, xs, h1, h2, h3⟩ => by
    subst h1
    unfold strsOf at h
    split at h <;> try contradiction
    · split at h <;> try contradiction
      rename_i r hr
      injection h with h; subst h
      obtain ⟨rfl, _⟩ := h2
      simp only [List.map_cons, strsOf_sound hr h3]
    · split at h <;> try contradiction
      rename_i r hr
      injection h with h; subst h
      simp only [VR] at h2; subst h2
      simp only [List.map_cons, strsOf_sound hr h3]
theorem strsOf_get {cs : List V} {ss : List (List UInt8)} {l : List Value} {n : Nat} (h : strsOf cs = some ss) (hv : VRs ρ cs l) (hn : n < ss.length) : l[n]? = some (.string ⟨⟨ss.getD n []⟩⟩) := by
  have h1 := congrArg (fun m => m[n]?) (strsOf_sound h hv)
  simp only [List.getElem?_map, List.getElem?_eq_getElem hn, Option.map_some] at h1
  cases hl : l[n]? with
  | none => rw [hl] at h1; cases h1
  | some x => rw [hl] at h1; simp only [Option.map_some, Option.some.injEq] at h1; subst h1; simp [List.getD_eq_getElem?_getD, hn]
theorem loadCell_sound {blk : Blk} {tot B n : Nat} {o : Obj} {i : I} {r : V} (hb : BR ρ tot blk o) (hw : w.heap[B]? = some o) (hi : IR i n) (h : (loadCell blk i).run = some r) :
    ∃ v, (load ⟨B, n, none⟩).run P w = .ok v w ∧ VR ρ r v := by
  cases blk <;> simp only [loadCell] at h
  case cells cs =>
    split at h
    · rename_i hc; simp only [Bool.and_eq_true, ieq_iff, ile_iff] at hc
      rw [T.run_ofOpt] at h
      obtain ⟨l, t, fz, rfl, h1, _⟩ := hb
      have e : i.lo.toNat = n := by have := hi.1; have := hi.2; omega
      rw [e] at h
      obtain ⟨v, hv, hr⟩ := h1.get h
      exact ⟨v, run_load_cell hw hv, hr⟩
    · split at h <;> try (cases h; done)
      rename_i ss hss
      obtain ⟨r', g1, g2⟩ := T.run_bind_some h
      injection g2 with g2; subst g2
      obtain ⟨l, t, fz, rfl, h1, _⟩ := hb
      obtain ⟨w1, w2, w3⟩ := within_sound hi (IR.lit _) g1
      have e : r'.n.toNat = n := by have := w3.1; omega
      rw [e]
      exact ⟨_, run_load_cell hw (strsOf_get hss h1 (by omega)), rfl⟩
  case vec cs =>
    split at h
    · rename_i hc; simp only [Bool.and_eq_true, ieq_iff, ile_iff] at hc
      rw [T.run_ofOpt] at h
      obtain ⟨l, l', t, fz, rfl, h1, _⟩ := hb
      have e : i.lo.toNat = n := by have := hi.1; have := hi.2; omega
      rw [e] at h
      obtain ⟨v, hv, hr⟩ := h1.get h
      refine ⟨v, run_load_cell hw (n := n) ?_, hr⟩
      rw [List.getElem?_append_left (by have := (List.getElem?_eq_some_iff.1 hv).1; exact this)]
      exact hv
    · split at h <;> try (cases h; done)
      rename_i ss hss
      obtain ⟨r', g1, g2⟩ := T.run_bind_some h
      injection g2 with g2; subst g2
      obtain ⟨l, l', t, fz, rfl, h1, _⟩ := hb
      obtain ⟨w1, w2, w3⟩ := within_sound hi (IR.lit _) g1
      have e : r'.n.toNat = n := by have := w3.1; omega
      rw [e]
      have hget := strsOf_get hss h1 (n := n) (by omega)
      refine ⟨_, run_load_cell hw (n := n) ?_, rfl⟩
      rw [List.getElem?_append_left ((List.getElem?_eq_some_iff.1 hget).1)]
      exact hget
  case fn k m f lo hi' =>
    obtain ⟨r', h1, h2⟩ := T.run_bind_some h
    injection h2 with h2; subst h2
    obtain ⟨l, t, fz, rfl, h3, h4, h5, _⟩ := hb
    obtain ⟨w1, w2, w3⟩ := within_sound hi (IR.lit _) h1
    have e : r'.n.toNat = n := by have := w3.1; omega
    have hn : n < m := by omega
    obtain ⟨g1, g2, g3⟩ := h5 n hn
    refine ⟨.int k (f n), run_load_cell hw g1, _, rfl, ?_⟩
    rw [e]; exact IR.mk' rfl g2 g3
  case ints k xs lo hi' =>
    simp only [T.run] at h
    obtain ⟨l, t, fz, rfl, h3, h4, h5, _⟩ := hb
    by_cases hc : 0 ≤ i.n ∧ i.n < xs.length
    · rw [decide_eq_true hc] at h
      simp only [cond_true, Option.some.injEq] at h; subst h
      have e : i.n.toNat = n := by have := hi.1; omega
      have hn : n < xs.length := by omega
      obtain ⟨g1, g2, g3⟩ := h5 n hn
      refine ⟨.int k xs[n], run_load_cell hw g1, _, rfl, ?_⟩
      rw [e]
      refine ⟨?_, g2, g3⟩
      simp [List.getD_eq_getElem?_getD, List.getElem?_eq_getElem hn]
    · rw [decide_eq_false hc] at h; simp at h
  case strs xs =>
    simp only [T.run] at h
    obtain ⟨l, t, fz, rfl, h3, h5, _⟩ := hb
    by_cases hc : 0 ≤ i.n ∧ i.n < xs.length
    · rw [decide_eq_true hc] at h
      simp only [cond_true, Option.some.injEq] at h; subst h
      have e : i.n.toNat = n := by have := hi.1; omega
      have hn : n < xs.length := by omega
      refine ⟨_, run_load_cell hw (h5 n hn), ?_⟩
      rw [e]
      simp [VR, List.getD_eq_getElem?_getD, List.getElem?_eq_getElem hn]
    · rw [decide_eq_false hc] at h; simp at h
  all_goals cases h
theorem loadAgg_sound {blk : Blk} {tot B n m : Nat} {o : Obj} {i : I} {r : V} (hb : BR ρ tot blk o) (hw : w.heap[B]? = some o) (hi : IR i n) (h : loadAgg blk i m = some r) :
    ∃ v, (loadCells ⟨B, n, none⟩ m).run P w = .ok ⟨v⟩ w ∧ ∃ cs, r = .agg cs ∧ VRs ρ cs v := by
  cases blk <;> simp only [loadAgg, reduceCtorEq] at h
  case cells cs =>
    split at h <;> try contradiction
    rename_i hc; simp only [Bool.and_eq_true, ieq_iff, ile_iff] at hc
    obtain ⟨⟨hc1, hc2⟩, hc3⟩ := hc
    have hc3 := Nat.le_of_ble_eq_true hc3
    obtain ⟨l, t, fz, rfl, h1, _⟩ := hb
    have e : i.lo.toNat = n := by have := hi.1; have := hi.2; omega
    rw [e] at h hc3
    injection h with h; subst h
    exact ⟨_, run_loadCells hw (by rw [h1.length]; exact hc3), _, rfl, (h1.drop n).take m⟩
  case vec cs =>
    split at h <;> try contradiction
    rename_i hc; simp only [Bool.and_eq_true, ieq_iff, ile_iff] at hc
    obtain ⟨⟨hc1, hc2⟩, hc3⟩ := hc
    have hc3 := Nat.le_of_ble_eq_true hc3
    obtain ⟨l, l', t, fz, rfl, h1, _⟩ := hb
    have e : i.lo.toNat = n := by have := hi.1; have := hi.2; omega
    rw [e] at h hc3
    injection h with h; subst h
    have hl := h1.length
    refine ⟨_, run_loadCells hw (by rw [List.length_append]; omega), _, rfl, ?_⟩
    have e2 : ((l ++ l').drop n).take m = (l.drop n).take m := by
      rw [List.drop_append_of_le_length (by omega), List.take_append_of_le_length (by rw [List.length_drop]; omega)]
    rw [e2]
    exact (h1.drop n).take m
theorem loadV_sound (ht : TyOK P ti) (hr : Rel w0 F G ro ρ hp w) {t : TypeId} {x r : V} {a : Value} (hx : VR ρ x a) (h : (loadV ti (hp.at ro) t x).run = some r) :
    ∃ v, (Instr.loadAt t a).run P w = .ok v w ∧ VR ρ r v := by
  unfold loadV at h
  split at h <;> try (cases h; done)
  rename_i b o
  split at h <;> try (cases h; done)
  rename_i i hi
  split at h <;> try (cases h; done)
  rename_i blk hblk
  obtain ⟨B, tot, n, h1, rfl, h2⟩ := hx
  obtain ⟨B', tot', ob, h3, h4, h5, _⟩ := hr.blk b blk hblk
  rw [h1] at h3
  obtain ⟨rfl, rfl⟩ := Prod.mk.inj (Option.some.inj h3)
  simp only [Instr.loadAt, Sem.run_bind, Instr.sureAddr, Sem.run_pure, Result.andThen_ok, loadVar, ht.run_agg hi]
  split at h
  · rename_i ha
    rw [T.run_ofOpt] at h
    obtain ⟨v, e1, cs, rfl, e2⟩ := loadAgg_sound (P := P) h5 h4 h2 h
    refine ⟨.agg ⟨v⟩, ?_, v, rfl, e2⟩
    simp only [ha, if_true, Sem.run_bind, ht.run_size hi, Result.andThen_ok, e1, Sem.run_pure]
  · rename_i ha
    obtain ⟨v, e1, e2⟩ := loadCell_sound (P := P) h5 h4 h2 h
    refine ⟨v, ?_, e2⟩
    simp only [ha, Bool.false_eq_true, if_false]
    exact e1

/-! ### writing -/
theorem putB_self {B : Nat} {o : Obj} (h : w.heap[B]? = some o) : World.putB w B o = w := by
  have hB := lt_of_heap h
  have : w.heap.setIfInBounds B o = w.heap := by
    apply Array.ext_getElem?
    intro i
    rw [Array.getElem?_setIfInBounds]
    by_cases e : B = i
    · subst e; rw [if_pos rfl, if_pos hB, h]
    · rw [if_neg e]
  unfold World.putB
  rw [this]
theorem splice_length {α : Type} {l vs : List α} {o : Nat} (h : o + vs.length ≤ l.length) : (splice l o vs).length = l.length := by
  simp [splice]; omega
theorem splice_nil {α : Type} (l : List α) (o : Nat) : splice l o [] = l := by simp [splice]
theorem splice_cons {α : Type} {l : List α} {o : Nat} {v : α} {vs : List α} (h : o < l.length) : splice l o (v :: vs) = splice (l.set o v) (o + 1) vs := by
  unfold splice
  rw [List.take_set, List.drop_set_of_lt (by omega)]
  have e : (List.take (o + 1) l).set o v = List.take o l ++ [v] := by
    rw [List.take_succ_eq_append_getElem h, List.set_append_right _ _ (by simp; omega)]
    simp [Nat.min_eq_left (Nat.le_of_lt h)]
  rw [e]
  simp [Nat.add_assoc, Nat.add_comm 1]
theorem VRs.splice {cs vs : List V} {l rs : List Value} {o : Nat} (h : VRs ρ cs l) (h' : VRs ρ vs rs) : VRs ρ (splice cs o vs) (Ev.splice l o rs) := by
  unfold Ev.splice
  rw [h'.length]
  exact (h.take o).append (h'.append (h.drop _))
theorem run_storeCells {B o : Nat} {t : TypeId} {fz : Nat × Nat} : ∀ (vs : List Value) (i : Nat) (w : World) (l : List Value), w.heap[B]? = some (.cells ⟨l⟩ t fz) → o + i + vs.length ≤ l.length → unfrozen fz l.length → (∀ v ∈ vs, v.oneCell' = true) →
    (storeCells ⟨B, o, none⟩ vs i).run P w = .ok () (World.putB w B (.cells ⟨splice l (o + i) vs⟩ t fz))
  | [], i, w, l, h, _, _, _ => by
    simp only [storeCells, Sem.run_pure, splice_nil, putB_self h]
  | v :: vs, i, w, l, h, hl, hf, hv => by
    simp only [List.length_cons] at hl
    have hlt : o + i < l.length := by omega
    have ha : (⟨B, o, none⟩ : Addr).add i = ⟨B, o + i, none⟩ := by unfold Addr.add; split <;> simp_all
    simp only [storeCells, Sem.run_bind, ha]
    rw [run_store _ _ _ _ _ (hv v (by simp)), cell_of h]
    have hg : (⟨l⟩ : Array Value)[o + i]? = some l[o + i] := by simp [hlt]
    simp only [hg, frozen_of h, hf (o + i) hlt, Bool.false_eq_true, if_false, Result.andThen_ok]
    rw [setCell_eq h]
    have h' : (World.putB w B (.cells ((⟨l⟩ : Array Value).setIfInBounds (o + i) v) t fz)).heap[B]? = some (.cells ⟨l.set (o + i) v⟩ t fz) := by
      rw [heap_putB (lt_of_heap h), if_pos rfl]; simp
    rw [run_storeCells vs (i + 1) _ (l.set (o + i) v) h' (by simp; omega) (by simpa using hf) (fun u hu => hv u (by simp [hu]))]
    rw [putB_putB, splice_cons hlt, Nat.add_assoc]
theorem allOne_sound : ∀ {vs : List V} {l : List Value}, VRs ρ vs l → allOne vs = true → ∀ v ∈ l, v.oneCell' = true
  | [], l, h, _, v, hv => by simp only [VRs] at h; subst h; cases hv
  | c :: cs, l, ⟨x, xs, h1, h2, h3⟩, ha, v, hv => by
    subst h1
    simp only [allOne, Bool.and_eq_true] at ha
    rcases List.mem_cons.1 hv with e | e
    · subst e; exact V.one_sound h2 ha.1
    · exact allOne_sound h3 ha.2 v e
theorem cellsV_sound {c : V} {x : Value} {cs : List V} (h : VR ρ c x) (h1 : cellsV c = some cs) : VRs ρ cs x.cells.toList := by
  cases c <;> simp only [cellsV, Option.some.injEq, reduceCtorEq] at h1 <;> subst h1
  case agg cs => obtain ⟨l, rfl, h2⟩ := h; exact h2
  all_goals
    have h2 := V.cells_sound h (.inl rfl)
    exact h2
theorem storeB_sound {blk blk' : Blk} {tot B n : Nat} {o : Obj} {i : I} {vs : List V} {rs : List Value} (hb : BR ρ tot blk o) (hw : w.heap[B]? = some o) (hi : IR i n) (hv : VRs ρ vs rs) (h : (storeB blk i vs).run = some blk') :
    ∃ o', (storeCells ⟨B, n, none⟩ rs).run P w = .ok () (World.putB w B o') ∧ BR ρ tot blk' o' := by
  cases blk <;> simp only [storeB] at h
  case cells cs =>
    split at h <;> try (cases h; done)
    rename_i hc; simp only [Bool.and_eq_true, ieq_iff, ile_iff] at hc
    obtain ⟨⟨⟨hc1, hc2⟩, hc3⟩, hc4⟩ := hc
    have hc3 := Nat.le_of_ble_eq_true hc3
    injection h with h; subst h
    obtain ⟨l, t, fz, rfl, h1, h2, h3⟩ := hb
    have e : i.lo.toNat = n := by have := hi.1; have := hi.2; omega
    rw [e] at hc3 ⊢
    have hl := h1.length
    have hvl := hv.length
    refine ⟨_, run_storeCells rs 0 w l hw (by omega) (by rw [h2]; exact h3) (allOne_sound hv hc4), ?_⟩
    refine ⟨_, t, fz, rfl, h1.splice hv, ?_, h3⟩
    rw [Nat.add_zero, splice_length (by omega), h2]
  case vec cs =>
    split at h <;> try (cases h; done)
    rename_i hc; simp only [Bool.and_eq_true, ieq_iff, ile_iff] at hc
    obtain ⟨⟨⟨hc1, hc2⟩, hc3⟩, hc4⟩ := hc
    have hc3 := Nat.le_of_ble_eq_true hc3
    injection h with h; subst h
    obtain ⟨l, l', t, fz, rfl, h1, h2, h3⟩ := hb
    have e : i.lo.toNat = n := by have := hi.1; have := hi.2; omega
    rw [e] at hc3 ⊢
    have hl := h1.length
    have hvl := hv.length
    have hll : (l ++ l').length = l.length + l'.length := List.length_append
    refine ⟨_, run_storeCells rs 0 w (l ++ l') hw (by omega) (by rw [h2]; exact h3) (allOne_sound hv hc4), ?_⟩
    have es : splice (l ++ l') n rs = splice l n rs ++ l' := by
      unfold splice
      rw [List.take_append_of_le_length (by omega), List.drop_append_of_le_length (by omega)]
      simp
    refine ⟨splice l n rs, l', t, fz, by rw [Nat.add_zero, es], h1.splice hv, ?_, h3⟩
    rw [← es, splice_length (by omega), h2]
  case fn k m f lo hi' =>
    split at h <;> try (cases h; done)
    rename_i k' j
    split at h <;> try (cases h; done)
    rename_i hk
    have hk := of_decide_eq_true hk; subst hk
    obtain ⟨r', h1, h2⟩ := T.run_bind_some h
    injection h2 with h2; subst h2
    obtain ⟨l, t, fz, rfl, h3, h4, h5, h6⟩ := hb
    obtain ⟨w1, w2, w3⟩ := within_sound hi (IR.lit _) h1
    have e : r'.n.toNat = n := by have := w3.1; omega
    have hn : n < m := by omega
    obtain ⟨x, xs, rfl, ⟨v, rfl, hvr⟩, hxs⟩ := hv
    simp only [VRs] at hxs; subst hxs
    obtain ⟨rfl, hv1, hv2⟩ := hvr
    refine ⟨_, run_storeCells _ 0 w l hw (by simp; omega) (by rw [h3]; exact h6) (by simp [Value.oneCell']), ?_⟩
    refine ⟨_, t, fz, rfl, ?_, h4, fun q hq => ?_, h6⟩
    · rw [splice_length (by simp; omega), h3]
    · obtain ⟨g1, g2, g3⟩ := h5 q hq
      have m1 := imin_le lo j.lo
      have m2 := le_imax hi' j.hi
      rw [Nat.add_zero, splice_cons (by omega), splice_nil, List.getElem?_set]
      by_cases eq : n = q
      · subst eq
        have hnl : n < l.length := by omega
        rw [if_pos rfl, if_pos hnl]
        show some (Value.int k j.n) = some (.int k (if n = r'.n.toNat then j.n else f n)) ∧ imin lo j.lo ≤ (if n = r'.n.toNat then j.n else f n) ∧ (if n = r'.n.toNat then j.n else f n) ≤ imax hi' j.hi
        rw [if_pos e.symm]
        exact ⟨rfl, by omega, by omega⟩
      · rw [if_neg eq]
        show l[q]? = some (.int k (if q = r'.n.toNat then j.n else f q)) ∧ imin lo j.lo ≤ (if q = r'.n.toNat then j.n else f q) ∧ (if q = r'.n.toNat then j.n else f q) ≤ imax hi' j.hi
        rw [if_neg (by rw [e]; exact fun h => eq h.symm)]
        exact ⟨g1, by omega, by omega⟩
  all_goals cases h
theorem storeV_sound (ht : TyOK P ti) (hr : Rel w0 F G ro ρ hp w) {t : TypeId} {x v : V} {a b : Value} {hp' : Hp} (hx : VR ρ x a) (hv : VR ρ v b) (h : (storeV ti hp t x v).run = some hp') :
    ∃ w', (Instr.storeAt t a b).run P w = .ok () w' ∧ Rel w0 F G ro ρ hp' w' := by
  unfold storeV at h
  split at h <;> try (cases h; done)
  rename_i id o
  split at h <;> try (cases h; done)
  rename_i i hi
  split at h <;> try (cases h; done)
  rename_i blk hblk
  split at h <;> try (cases h; done)
  rename_i vs hvs
  split at h <;> try (cases h; done)
  rename_i hsz
  have hsz := Nat.eq_of_beq_eq_true hsz
  obtain ⟨blk', h1, h2⟩ := T.run_bind_some h
  injection h2 with h2; subst h2
  obtain ⟨B, tot, n, h3, rfl, h4⟩ := hx
  have hat : hp.at ro id = some blk := by simp [Hp.at, hblk]
  obtain ⟨B', tot', ob, h5, h6, h7, _⟩ := hr.blk id blk hat
  rw [h3] at h5
  obtain ⟨rfl, rfl⟩ := Prod.mk.inj (Option.some.inj h5)
  have hcs := cellsV_sound hv hvs
  obtain ⟨o', e1, e2⟩ := storeB_sound (P := P) h7 h6 h4 hcs h1
  refine ⟨_, ?_, hr.put hblk h3 e2⟩
  have hlen : b.cells.size = i.size := by
    have := hcs.length
    rw [Array.length_toList] at this
    omega
  simp only [Instr.storeAt, Sem.run_bind, Instr.sureAddr, Sem.run_pure, Result.andThen_ok, storeVar, ht.run_size hi, ne_eq, hlen, not_true, if_false]
  exact e1
theorem newV_eq {b : Blk} {r : Nat × Hp} (h : newV hp b = some r) : hp.nxt < hp.lim ∧ r = (hp.nxt, hp.new b) := by
  unfold newV at h
  split at h <;> try contradiction
  rename_i hl
  exact ⟨Nat.le_of_ble_eq_true hl, by injection h with h; exact h.symm⟩
theorem unfrozen_zero (n : Nat) : unfrozen (0, 0) n := fun i _ => by simp
/-- A new row of cells. -/
theorem run_newRow (hr : Rel w0 F G ro ρ hp w) (hl : hp.nxt < hp.lim) {cs : List V} {l : List Value} (h : VRs ρ cs l) (t : TypeId) :
    (newRow t ⟨l⟩).run P w = .ok ⟨w.heap.size, 0, none⟩ { w with heap := w.heap.push (.cells ⟨l⟩ t) } ∧
    Rel w0 F G ro (ρ.ext hp.nxt (w.heap.size, l.length)) (hp.new (.cells cs)) { w with heap := w.heap.push (.cells ⟨l⟩ t) } := by
  have hle : ρ.le (ρ.ext hp.nxt (w.heap.size, l.length)) := Ren.le_ext (hr.fresh hp.nxt (Nat.le_refl _) hl)
  refine ⟨rfl, hr.new hl ⟨l, t, (0, 0), rfl, VRs.mono hle _ _ h, rfl, unfrozen_zero _⟩⟩
theorem allocV_sound (hr : Rel w0 F G ro ρ hp w) {c r : V} {x : Value} {hp' : Hp} (hx : VR ρ c x) (h : (allocV hp c).run = some (r, hp')) (t : TypeId) :
    ∃ a w' ρ', ρ.le ρ' ∧ (newVar t x).run P w = .ok a w' ∧ VR ρ' r (.pointer (some a)) ∧ Rel w0 F G ro ρ' hp' w' := by
  unfold allocV at h
  split at h <;> try (cases h; done)
  rename_i cs hcs
  split at h <;> try (cases h; done)
  rename_i hone
  obtain ⟨p, h1, h2⟩ := T.run_bind_some h
  rw [T.run_ofOpt] at h1
  obtain ⟨hl, rfl⟩ := newV_eq h1
  injection h2 with h2; injection h2 with h3 h4; subst h3; subst h4
  have hc := cellsV_sound hx hcs
  obtain ⟨e1, e2⟩ := run_newRow (P := P) hr hl hc t
  refine ⟨_, _, _, Ren.le_ext (hr.fresh hp.nxt (Nat.le_refl _) hl), e1, ⟨_, _, 0, Ren.ext_same, rfl, IR.lit 0⟩, e2⟩

/-! ### literals -/
theorem fill_eq {place : Nat → Option (Nat × Nat)} {cells : List Value} {i : Nat} {v : Value} {rest : List (Nat × Value)} {off size : Nat} (hp : place i = some (off, size)) (h1 : v.cells.size = size) (h2 : off + v.cells.size ≤ cells.length) :
    Instr.fill place ⟨cells⟩ ((i, v) :: rest) = Instr.fill place ⟨splice cells off v.cells.toList⟩ rest := by
  have hfold : ∀ (l : List Value) (k : Nat) (cs : List Value), off + k + l.length ≤ cs.length →
      (l.zipIdx k).foldl (fun (cs : Array Value) (c, j) => cs.setIfInBounds (off + j) c) ⟨cs⟩ = ⟨splice cs (off + k) l⟩ := by
    intro l
    induction l with
    | nil => intro k cs _; simp [splice_nil]
    | cons x l ih =>
      intro k cs hk
      simp only [List.length_cons] at hk
      simp only [List.zipIdx_cons, List.foldl_cons]
      have : (⟨cs⟩ : Array Value).setIfInBounds (off + k) x = ⟨cs.set (off + k) x⟩ := by simp
      rw [this, ih (k + 1) _ (by simp; omega), splice_cons (by omega), Nat.add_assoc]
  simp only [Instr.fill, hp]
  have hneg : ¬ (v.cells.size ≠ size ∨ off + v.cells.size > (⟨cells⟩ : Array Value).size) := by
    have e : (⟨cells⟩ : Array Value).size = cells.length := rfl
    rw [e]; omega
  rw [if_neg (by simpa using hneg)]
  congr 1
  have := hfold v.cells.toList 0 cells (by simpa using h2)
  rw [Nat.add_zero] at this
  rw [← this, ← Array.foldl_toList]
  simp [Array.toList_zipIdx]
theorem fillV_sound {pl : Nat → Option (Nat × Nat)} : ∀ {parts : List (Nat × V)} {rparts : List (Nat × Value)} {cells out : List V} {rc : List Value}, VRs ρ cells rc →
    (parts.map (·.1) = rparts.map (·.1)) → VRs ρ (parts.map (·.2)) (rparts.map (·.2)) → fillV pl cells parts = some out → ∃ ro, Instr.fill pl ⟨rc⟩ rparts = some ⟨ro⟩ ∧ VRs ρ out ro
  | [], rparts, cells, out, rc, h, h1, _, h3 => by
    simp only [List.map_nil, List.nil_eq, List.map_eq_nil_iff] at h1
    subst h1
    injection h3 with h3; subst h3
    exact ⟨rc, rfl, h⟩
  | (i, v) :: parts, rparts, cells, out, rc, h, h1, h2, h3 => by
    cases rparts with
    | nil => simp at h1
    | cons p rparts =>
      obtain ⟨j, x⟩ := p
      simp only [List.map_cons, List.cons.injEq] at h1
      obtain ⟨rfl, h1⟩ := h1
      obtain ⟨y, ys, e, hv, hvs⟩ := h2
      simp only [List.map_cons, List.cons.injEq] at e
      obtain ⟨rfl, rfl⟩ := e
      unfold fillV at h3
      split at h3 <;> try contradiction
      rename_i off size hpl
      split at h3 <;> try contradiction
      rename_i vs hvs2
      split at h3 <;> try contradiction
      rename_i hc
      simp only [Bool.and_eq_true] at hc
      have hc1 := Nat.eq_of_beq_eq_true hc.1
      have hc2 := Nat.le_of_ble_eq_true hc.2
      have hcs := cellsV_sound hv hvs2
      have hl := hcs.length
      rw [Array.length_toList] at hl
      have hl2 := h.length
      rw [fill_eq hpl (by omega) (by omega)]
      exact fillV_sound (h.splice hcs) h1 hvs h3
theorem partsV_sound {tmps : Tr V} {a : Act} (ht : TR ρ tmps a.tmps) (hg : GR ρ G) : ∀ {l : List (Nat × Operand)} {ps : List (Nat × V)}, partsV G tmps l = some ps →
    ps.map (·.1) = l.map (·.1) ∧ VRs ρ (ps.map (·.2)) (l.map fun p => a.eval p.2)
  | [], _, h => by injection h with h; subst h; exact ⟨rfl, rfl⟩
  | (i, o) :: r, ps, h => by
    unfold partsV at h
    split at h <;> try contradiction
    rename_i v l' h1 h2
    injection h with h; subst h
    obtain ⟨e1, e2⟩ := partsV_sound ht hg h2
    exact ⟨by simp [e1], _, _, rfl, opV_sound ht hg h1, e2⟩
theorem fieldPlaces_sound (ht : TyOK P ti) : ∀ {fs : List Field} {l : List (Nat × Nat)}, fieldPlaces ti fs = some l → ∀ w : World, (fs.mapM fun f => do pure (f.offset, ← sizeOf f.type) : Sem (List (Nat × Nat))).run P w = .ok l w
  | [], _, h, w => by injection h with h; subst h; rfl
  | f :: fs, l, h, w => by
    unfold fieldPlaces at h
    split at h <;> try contradiction
    rename_i i l' h1 h2
    injection h with h; subst h
    have := fieldPlaces_sound ht h2 w
    simp only [List.mapM_cons, Sem.run_bind, ht.run_size h1, Result.andThen_ok, Sem.run_pure, this]
theorem buildV_sound (ht : TyOK P ti) {t : TypeId} {parts : List (Nat × V)} {rparts : List (Nat × Value)} {r : V} (h1 : parts.map (·.1) = rparts.map (·.1)) (h2 : VRs ρ (parts.map (·.2)) (rparts.map (·.2)))
    (h : buildV ti t parts = some r) (w : World) : ∃ v, (Instr.build t rparts.toArray).run P w = .ok v w ∧ VR ρ r v := by
  unfold buildV at h
  split at h <;> try contradiction
  rename_i i hi
  split at h <;> try contradiction
  rename_i z hz
  split at h <;> try contradiction
  rename_i zs hzs
  split at h <;> try contradiction
  rename_i pl hpl
  obtain ⟨out, h3, h4⟩ := Option.map_eq_some_iff.1 h
  subst h4
  obtain ⟨zl, rfl, hzl⟩ := constV_sound (ρ := ρ) hzs
  obtain ⟨ol, e1, e2⟩ := fillV_sound hzl h1 h2 h3
  refine ⟨.agg ⟨ol⟩, ?_, _, rfl, e2⟩
  simp only [Instr.build, Sem.run_bind, ht.run_zero hi hz, Result.andThen_ok, ht.run_und hi, Value.cells]
  unfold placeOf at hpl
  split at hpl
  · rename_i fs hfs
    split at hpl <;> try contradiction
    rename_i pl' hpl'
    injection hpl with hpl; subst hpl
    rw [hfs]
    simp only
    have hm := fieldPlaces_sound (P := P) ht hpl' w
    rw [Array.mapM_eq_mapM_toList]
    simp only [Sem.run_map, hm, Result.andThen_ok, Sem.run_bind]
    have : (fun k : Nat => pl'[k]?) = (fun k : Nat => (pl'.toArray)[k]?) := by funext k; simp
    rw [this] at e1
    simp only [e1]
    rfl
  · rename_i n e he
    split at hpl <;> try contradiction
    rename_i ei hei
    injection hpl with hpl; subst hpl
    rw [he]
    simp only [Sem.run_bind, ht.run_size hei, Result.andThen_ok, e1]
    rfl
  · contradiction
end
end Go.Ev
