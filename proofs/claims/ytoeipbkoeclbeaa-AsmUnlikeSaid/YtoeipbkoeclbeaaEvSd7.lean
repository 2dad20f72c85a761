/- Own text: that one abstract operation says what the model's does. -/
import Derived.Test.YtoeipbkoeclbeaaEvSd6
namespace Go.Ev
section
variable {P : Program} {ti : Nat → Option TI} {ρ : Ren} {G : Nat} {w0 : Base} {w : World} {F : Nat → Prop} {ro : RO} {hp : Hp}
theorem appendV_sound (ht : TyOK P ti) (hr : Rel w0 F G ro ρ hp w) {st xt ty : TypeId} {s x r : V} {a b : Value} {hp' : Hp} (hs : VR ρ s a) (hx : VR ρ x b) (h : (appendV ti ro hp st xt s x).run = some (r, hp')) :
    ∃ v w' ρ', ρ.le ρ' ∧ (Builtin.append_ #[st, xt] ty #[a, b]).run P w = .ok v w' ∧ VR ρ' r v ∧ Rel w0 F G ro ρ' hp' w' := by
  unfold appendV at h
  split at h <;> try (cases h; done)
  rename_i ei hei
  obtain ⟨e, hu, hti⟩ := slOf_sound (P := P) ht hei
  split at h <;> try (cases h; done)
  rename_i hint
  obtain ⟨d, hd1, hd2⟩ := isIntT_sound (P := P) ht hint
  split at h <;> try (cases h; done)
  rename_i z hz
  split at h <;> try (cases h; done)
  rename_i n new hsh
  obtain ⟨hl, l, hf, hlv⟩ := shown_sound (P := P) hr hx hsh
  have hll := hlv.length
  split at h <;> try (cases h; done)
  rename_i hc
  simp only [Bool.and_eq_true] at hc
  have hnew := Nat.eq_of_beq_eq_true hc.1
  split at h <;> try (cases h; done)
  · simp only [VR] at hs; subst hs
    split at h
    · rename_i h0
      have h0 := Nat.eq_of_beq_eq_true h0
      subst h0
      injection h with h; injection h with h1 h2; subst h1; subst h2
      have hl0 : l = [] := by
        cases l with
        | nil => rfl
        | cons _ _ => simp at hll; omega
      subst hl0
      refine ⟨_, w, ρ, Ren.le.refl _, ?_, rfl, hr⟩
      simp only [Builtin.append_, List.getElem?_toArray, List.getElem?_cons_zero, List.getElem?_cons_succ, Sem.run_bind, run_und' hu, Result.andThen_ok, ht.run_size hti, run_und' hd1, Sem.run_pure]
      cases d <;> first | (cases hd2; done) | simp only [Bool.false_eq_true, if_false, Sem.run_bind, hl, Result.andThen_ok, Nat.zero_add, Nat.le_refl, if_true, Bool.not_false, hf w rfl, Sem.run_pure]
    · rename_i h0
      split at h <;> try (cases h; done)
      rename_i hb
      simp only [Bool.and_eq_true] at hb
      have hb1 := Nat.le_of_ble_eq_true hb.1
      have hb2 := Nat.le_of_ble_eq_true hb.2
      have hn : 0 < n := by
        rcases Nat.eq_zero_or_pos n with e | e
        · subst e; cases h0
        · exact e
      obtain ⟨k, rest, c1, c2, c3, c4⟩ := run_append_new (ty := ty) (w := w) (base := none) (len := 0) (cap := 0) (old := []) ht hti hu hd1 hd2 hz (hl w) (hf w.drew rfl) (by omega) rfl (by omega) (by rw [nextslicecap_zero (by omega)]; simpa using hb1)
      simp only [Nat.zero_add, List.nil_append] at c1 c3 c4
      obtain ⟨ρ', d1, d2, d3⟩ := appendNew_sound (e := e) hr.drew hlv h (by omega) c1 c2 c3
      exact ⟨_, _, ρ', d1, c4, d2, d3⟩
  · exact appendSl_sound ht hr hti hu hd1 hd2 hz hs hl hf hlv hnew hc.2 h

/-! ### bytes -/
theorem bytes_fold {f : Value → ByteArray → Sem (ForInStep ByteArray)} (hf : ∀ n s, f (.int .u8 n) s = pure (.yield (s.push (UInt8.ofNat n.toNat)))) : ∀ (is : List I) (acc : ByteArray) (w : World),
    (forIn (is.map fun i => Value.int .u8 i.n) acc f : Sem ByteArray).run P w = .ok ⟨acc.data ++ ⟨is.map byteOf⟩⟩ w
  | [], acc, w => by simp
  | i :: is, acc, w => by
    simp only [List.map_cons, List.forIn_cons, Sem.run_bind, Sem.run_pure, Result.andThen_ok, hf]
    rw [bytes_fold hf is _ w]
    congr 2
    simp [byteOf, ByteArray.push]
theorem bytesOk_sound : ∀ {is : List I}, bytesOk is = true → ∀ i ∈ is, 0 ≤ i.lo ∧ i.hi ≤ 255
  | [], _, i, h => by cases h
  | j :: r, h, i, hi => by
    simp only [bytesOk, Bool.and_eq_true, ile_iff] at h
    rcases List.mem_cons.1 hi with e | e
    · subst e; exact ⟨h.1.1, h.1.2⟩
    · exact bytesOk_sound h.2 i e
theorem bytesV_sound (ht : TyOK P ti) (hr : Rel w0 F G ro ρ hp w) {s d : TypeId} {x r : V} {a : Value} (hx : VR ρ x a) (h : bytesV ti (hp.at ro) s d x = some r) :
    ∃ v, (convert s d a).run P w = .ok v w ∧ VR ρ r v := by
  unfold bytesV at h
  split at h <;> try contradiction
  rename_i ei hei
  obtain ⟨e, hu, hti⟩ := slOf_sound (P := P) ht hei
  split at h <;> try contradiction
  rename_i hc
  simp only [Bool.and_eq_true] at hc
  have hd := isStrT_sound (P := P) ht hc.2
  have he : P.underlying e = some (.int .u8) := by
    have := ht.und _ _ hti
    rw [this]
    have h1 := hc.1
    revert h1
    cases ei.und <;> intro h1 <;> try (cases h1; done)
    rename_i k
    cases k <;> first | rfl | cases h1
  split at h <;> try contradiction
  · injection h with h; subst h
    simp only [VR] at hx; subst hx
    refine ⟨_, ?_, rfl, fun i hi => by cases hi⟩
    simp only [convert, Sem.run_bind, run_und' hu, run_und' hd, run_und' he, Result.andThen_ok, Conv.bytesToString, Sem.run_pure]
    rfl
  · rename_i b es o len clo chi
    split at h <;> try contradiction
    rename_i n l hsh
    split at h <;> try contradiction
    rename_i is his
    obtain ⟨hok, rfl⟩ := onlyIf_some h
    obtain ⟨hl, lv, hf, hlv⟩ := shown_sound (P := P) hr hx hsh
    obtain ⟨rfl, hb, _⟩ := intsOf_sound his hlv
    have hbk : ∀ i ∈ is, 0 ≤ i.lo ∧ i.lo ≤ i.n ∧ i.n ≤ i.hi ∧ i.hi ≤ 255 := fun i hi => ⟨(bytesOk_sound hok i hi).1, (hb i hi).1, (hb i hi).2, (bytesOk_sound hok i hi).2⟩
    refine ⟨.string ⟨⟨is.map byteOf⟩⟩, ?_, rfl, hbk⟩
    obtain ⟨B, tot, no, nl, cap, g1, rfl, g2, g3, _⟩ := hx
    have hn : n = nl := by have := hl w; simp only [Builtin.lenOf, Sem.run_pure] at this; injection this with h1; exact h1.symm
    subst hn
    have hf1 := hf w rfl
    simp only [Builtin.firstCells, Nat.mul_one] at hf1
    simp only [convert, Sem.run_bind, run_und' hu, run_und' hd, run_und' he, Result.andThen_ok, Conv.bytesToString, hf1]
    rw [List.forIn_toArray, bytes_fold (fun _ _ => rfl) is _ w]
    simp
end
end Go.Ev
