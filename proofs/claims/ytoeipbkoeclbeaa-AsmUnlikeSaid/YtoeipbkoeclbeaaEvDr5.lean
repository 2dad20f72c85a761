/- Own text: operations of a region whose order is open: what holds between them. -/
import Derived.Test.YtoeipbkoeclbeaaEvDr4
namespace Go.Ev
def comb (n : Nat) (rs : RS) : Hp := ⟨addSs rs.hp.m rs.side 0 (2 ^ n - 1), rs.hp.nxt, rs.hp.lim⟩
/-- What holds while the operations of a region come in some order. -/
structure DI (w0 : Base) (F : Nat → Prop) (G : Nat) (ro : RO) (nt n b0 stride : Nat) (dfr : List ADef) (ρ0 : Ren) (listed : Array Bool) (rs : RS) (a : Act) (w : World) (ρ : Ren) : Prop where
  le : ρ0.le ρ
  rel : Rel w0 F G ro ρ (comb n rs) w
  tr : TR ρ rs.tmps a.tmps
  dr : DR ρ dfr a.defers
  nt : nt = a.tmps.size
  len : rs.side.length = n
  lsz : listed.size = n
  opn : ∀ j, j < n → listed.getD j true = false → rs.side[j]? = some none ∧ ∀ id, b0 + j * stride ≤ id → id < b0 + j * stride + stride → ρ id = none
  area : ∀ (j : Nat) (l : Side) (id : Nat) (b : Blk), rs.side[j]? = some (some l) → findS l id = some b → b0 + j * stride ≤ id ∧ id < b0 + j * stride + stride ∧ rs.hp.at ro id = none
  nxt : b0 + n * stride ≤ rs.hp.nxt
  sep : ∀ id b, rs.hp.m.get id = some b → ro id = none
  base : w0.nxt ≤ b0
theorem area_disj {b0 s j k id : Nat} (h1 : b0 + j * s ≤ id) (h2 : id < b0 + j * s + s) (h3 : b0 + k * s ≤ id) (h4 : id < b0 + k * s + s) : j = k := by
  rcases Nat.lt_trichotomy j k with h | h | h
  · have : (j + 1) * s ≤ k * s := Nat.mul_le_mul_right s h
    rw [Nat.add_mul, Nat.one_mul] at this; omega
  · exact h
  · have : (k + 1) * s ≤ j * s := Nat.mul_le_mul_right s h
    rw [Nat.add_mul, Nat.one_mul] at this; omega
theorem area_top {b0 s j n : Nat} (h : j < n) : b0 + j * s + s ≤ b0 + n * s := by
  have : (j + 1) * s ≤ n * s := Nat.mul_le_mul_right s h
  rw [Nat.add_mul, Nat.one_mul] at this; omega
theorem full_bit {n k : Nat} (h : k < n) : Nat.testBit (2 ^ n - 1) k = true := by
  rw [Nat.testBit_two_pow_sub_one]; simpa using h
section
variable {w0 : Base} {F : Nat → Prop} {G : Nat} {ro : RO} {nt n b0 stride : Nat} {dfr : List ADef} {ρ0 ρ ρ' : Ren} {listed : Array Bool} {rs : RS} {a : Act} {w w' : World} {j : Nat} {o : Oper}
theorem DI.view (d : DI w0 F G ro nt n b0 stride dfr ρ0 listed rs a w ρ) {mask id : Nat} {b : Blk} (h : viewS ro rs mask id = some b) : (comb n rs).at ro id = some b := by
  have hat : (comb n rs).at ro id = match findSs rs.side 0 (2 ^ n - 1) id with
      | some b => some b
      | none => rs.hp.at ro id := by
    simp only [comb, Hp.at, addSs_get]
    cases findSs rs.side 0 (2 ^ n - 1) id <;> rfl
  rw [hat]
  unfold viewS at h
  cases hf : findSs rs.side 0 mask id with
  | some b' =>
    rw [hf] at h
    injection h with h; subst h
    obtain ⟨k, s, h1, _, h3⟩ := findSs_some hf
    have hk : k < n := by rw [← d.len]; exact (List.getElem?_eq_some_iff.1 h1).1
    obtain ⟨a1, a2, _⟩ := d.area k s id b' h1 h3
    cases hg : findSs rs.side 0 (2 ^ n - 1) id with
    | none => rw [findSs_none hg k s h1 (by rw [Nat.zero_add]; exact full_bit hk)] at h3; cases h3
    | some b'' =>
      obtain ⟨k', s', g1, _, g3⟩ := findSs_some hg
      obtain ⟨c1, c2, _⟩ := d.area k' s' id b'' g1 g3
      have e := area_disj a1 a2 c1 c2
      subst e
      rw [h1] at g1
      injection g1 with g1; injection g1 with g1; subst g1
      rw [h3] at g3; exact g3.symm
  | none =>
    rw [hf] at h
    cases hg : findSs rs.side 0 (2 ^ n - 1) id with
    | none => exact h
    | some b'' =>
      obtain ⟨k', s', g1, _, g3⟩ := findSs_some hg
      obtain ⟨_, _, c3⟩ := d.area k' s' id b'' g1 g3
      rw [c3] at h; cases h
theorem view_zero {id : Nat} : viewS ro rs 0 id = rs.hp.at ro id := by
  unfold viewS
  cases h : findSs rs.side 0 0 id with
  | none => rfl
  | some b => obtain ⟨k, s, _, h2, _⟩ := findSs_some h; simp at h2
theorem DI.hp_at (d : DI w0 F G ro nt n b0 stride dfr ρ0 listed rs a w ρ) {id : Nat} {b : Blk} (h : rs.hp.at ro id = some b) : (comb n rs).at ro id = some b :=
  d.view (mask := 0) (by rw [view_zero]; exact h)
theorem DI.ro_at (d : DI w0 F G ro nt n b0 stride dfr ρ0 listed rs a w ρ) {id : Nat} {b : Blk} (h : ro id = some b) : (comb n rs).at ro id = some b := by
  refine d.hp_at ?_
  unfold Hp.at
  cases hg : rs.hp.m.get id with
  | none => exact h
  | some b' => rw [d.sep id b' hg] at h; cases h
theorem listed_set {k : Nat} (hl : listed.size = n) (hj : j < n) (h : (listed.setIfInBounds j true).getD k true = false) : k ≠ j ∧ listed.getD k true = false := by
  rw [getD_set] at h
  split at h
  · cases h
  · rename_i hne
    exact ⟨fun e => hne ⟨e.symm, by omega⟩, h⟩
/-- An operation that makes new blocks, or none. -/
theorem DI.new (d : DI w0 F G ro nt n b0 stride dfr ρ0 listed rs a w ρ) (hj : j < n) (hl : listed.getD j true = false) {view : RO} (hv : ∀ id b, view id = some b → (comb n rs).at ro id = some b)
    {hp' : Hp} {v v2 : V} {x : Value} {q : V × Eff} (hle : ρ.le ρ') (h' : Rel ⟨w, ρ, (areaHp b0 stride j).nxt⟩ (OwnB ρ (areaHp b0 stride j)) G view ρ' hp' w') (hx : VR ρ' v2 x)
    (hq : (newC (b0 + j * stride) (b0 + j * stride + stride) v hp').run = some q) (hd : dstOk nt o.dst = true) :
    DI w0 F G ro nt n b0 stride dfr ρ0 (listed.setIfInBounds j true) (applyE j o rs v2 q.2) (a.put o.dst x) w' ρ' := by
  have hvv : ∀ id b, (areaHp b0 stride j).at view id = some b → (comb n rs).at ro id = some b := fun id b h => hv id b h
  have htop : b0 + j * stride + stride ≤ b0 + n * stride := area_top hj
  have hnx := d.nxt
  have hb := d.base
  -- how far the numbers went
  have hnx' : hp'.nxt ≤ b0 + j * stride + stride ∧ b0 + j * stride ≤ hp'.nxt ∧ ((q.2 = .keep ∧ hp'.nxt = b0 + j * stride) ∨ ∃ l, q.2 = .side l ∧ sideOf hp'.m (b0 + j * stride) (hp'.nxt - (b0 + j * stride)) = some l) := by
    have hle0 : b0 + j * stride ≤ hp'.nxt := h'.le0
    unfold newC at hq
    split at hq
    · rename_i he
      have he := Nat.eq_of_beq_eq_true he
      injection hq with hq; subst hq
      exact ⟨by omega, hle0, .inl ⟨rfl, he⟩⟩
    · split at hq <;> try (cases hq; done)
      rename_i hble
      have hble := Nat.le_of_ble_eq_true hble
      split at hq <;> try (cases hq; done)
      rename_i l hs
      injection hq with hq; subst hq
      exact ⟨hble, hle0, .inr ⟨l, rfl, hs⟩⟩
  obtain ⟨u1, u2, u3⟩ := hnx'
  have opn' : ∀ k, k < n → (listed.setIfInBounds j true).getD k true = false → rs.side[k]? = some none ∧ k ≠ j ∧ ∀ id, b0 + k * stride ≤ id → id < b0 + k * stride + stride → ρ' id = none := by
    intro k hk hlk
    obtain ⟨hne, hlk'⟩ := listed_set d.lsz hj hlk
    obtain ⟨o1, o2⟩ := d.opn k hk hlk'
    refine ⟨o1, hne, fun id i1 i2 => ?_⟩
    cases hr : ρ' id with
    | none => rfl
    | some y =>
      rcases h'.ren id y hr with k1 | k1
      · have : ρ id = some y := k1
        rw [o2 id i1 i2] at this; cases this
      · have k2 : b0 + j * stride ≤ id := k1.1
        exact absurd (area_disj i1 i2 k2 (by omega)) hne
  have freshArea : ∀ id, b0 + j * stride ≤ id → id < b0 + j * stride + stride → rs.hp.at ro id = none := fun id i1 i2 => by
    cases hh : rs.hp.at ro id with
    | none => rfl
    | some b =>
      obtain ⟨B, t, _, e1, _⟩ := d.rel.blk id b (d.hp_at hh)
      rw [(d.opn j hj hl).2 id i1 i2] at e1; cases e1
  rcases u3 with ⟨e1, e2⟩ | ⟨l, e1, e2⟩
  · rw [e1]
    refine ⟨d.le.trans hle, ?_, TR.put (TR.mono hle d.tr) o.dst hx hd d.nt, by cases o.dst <;> exact DR.mono hle d.dr, by rw [size_put]; exact d.nt, d.len, by simpa using d.lsz, fun k hk hlk => ?_, d.area, d.nxt, d.sep, d.base⟩
    · refine Rel.after (H' := comb n rs) (own := areaHp b0 stride j) d.rel hvv (fun id b h => by cases h) (fun id b h => by cases h) hle h' (fun id b h => .inl ⟨h, rfl⟩) d.rel.sep (fun id i1 i2 => ⟨i1, i2, fun ⟨i3, i4⟩ => ?_⟩) (Nat.le_refl _) ?_ ?_
      · have i3 : b0 + j * stride ≤ id := i3
        omega
      · show w0.nxt ≤ b0 + j * stride
        omega
      · show hp'.nxt ≤ rs.hp.nxt
        omega
    · obtain ⟨o1, _, o3⟩ := opn' k hk hlk
      exact ⟨o1, o3⟩
  · rw [e1]
    have sideGet : ∀ k s, (rs.side.set j (some l))[k]? = some (some s) → (k = j ∧ s = l) ∨ (k ≠ j ∧ rs.side[k]? = some (some s)) := fun k s h => by
      rw [List.getElem?_set] at h
      split at h
      · rename_i e
        split at h
        · injection h with h; injection h with h; exact .inl ⟨e.symm, h.symm⟩
        · cases h
      · rename_i e; exact .inr ⟨fun e2 => e e2.symm, h⟩
    have lfind : ∀ id b, findS l id = some b → hp'.m.get id = some b ∧ b0 + j * stride ≤ id ∧ id < b0 + j * stride + stride := fun id b h => by
      obtain ⟨g1, g2, g3⟩ := sideOf_find e2 h
      exact ⟨g1, g2, by omega⟩
    have area' : ∀ (k : Nat) (s : Side) (id : Nat) (b : Blk), (rs.side.set j (some l))[k]? = some (some s) → findS s id = some b → b0 + k * stride ≤ id ∧ id < b0 + k * stride + stride ∧ rs.hp.at ro id = none := fun k s id b hk hs => by
      rcases sideGet k s hk with ⟨rfl, rfl⟩ | ⟨_, h⟩
      · obtain ⟨_, g2, g3⟩ := lfind id b hs
        exact ⟨g2, g3, freshArea id g2 g3⟩
      · exact d.area k s id b h hs
    have opn2 : ∀ k, k < n → (listed.setIfInBounds j true).getD k true = false → (rs.side.set j (some l))[k]? = some none ∧ ∀ id, b0 + k * stride ≤ id → id < b0 + k * stride + stride → ρ' id = none := fun k hk hlk => by
      obtain ⟨o1, o2, o3⟩ := opn' k hk hlk
      exact ⟨by rw [List.getElem?_set, if_neg fun e => o2 e.symm]; exact o1, o3⟩
    refine ⟨d.le.trans hle, ?_, TR.put (TR.mono hle d.tr) o.dst hx hd d.nt, by cases o.dst <;> exact DR.mono hle d.dr, by rw [size_put]; exact d.nt, by simpa [applyE] using d.len, by simpa using d.lsz, opn2, area', d.nxt, d.sep, d.base⟩
    have at' : ∀ id b, (comb n (applyE j o rs v2 (.side l))).at ro id = some b → (∃ k s, (rs.side.set j (some l))[k]? = some (some s) ∧ findS s id = some b) ∨ rs.hp.at ro id = some b := fun id b h => by
      have e : (comb n (applyE j o rs v2 (.side l))).at ro id = match findSs (rs.side.set j (some l)) 0 (2 ^ n - 1) id with
          | some b => some b
          | none => rs.hp.at ro id := by
        simp only [comb, applyE, Hp.at, addSs_get]
        cases findSs (rs.side.set j (some l)) 0 (2 ^ n - 1) id <;> rfl
      rw [e] at h
      split at h
      · rename_i b' hf
        injection h with h; subst h
        obtain ⟨k, s, h1, _, h3⟩ := findSs_some hf
        exact .inl ⟨k, s, h1, h3⟩
      · exact .inr h
    refine Rel.after (own := areaHp b0 stride j) d.rel hvv (fun id b h => by cases h) (fun id b h => by cases h) hle h' (fun id b h => ?_) (fun id b h => ?_) (fun id i1 i2 => ⟨i1, i2, fun ⟨i3, i4⟩ => ?_⟩) (Nat.le_refl _) ?_ ?_
    · rcases at' id b h with ⟨k, s, h1, h2⟩ | h
      · rcases sideGet k s h1 with ⟨rfl, rfl⟩ | ⟨_, h3⟩
        · exact .inr (at_get (lfind id b h2).1)
        · have hk : k < n := by rw [← d.len]; exact (List.getElem?_eq_some_iff.1 h3).1
          refine .inl ⟨d.view (mask := 2 ^ n - 1) ?_, rfl⟩
          unfold viewS
          cases hf : findSs rs.side 0 (2 ^ n - 1) id with
          | none => rw [findSs_none hf k s h3 (by rw [Nat.zero_add]; exact full_bit hk)] at h2; cases h2
          | some b'' =>
            obtain ⟨k', s', g1, _, g3⟩ := findSs_some hf
            obtain ⟨c1, c2, _⟩ := d.area k' s' id b'' g1 g3
            obtain ⟨c3, c4, _⟩ := d.area k s id b h3 h2
            have e := area_disj c1 c2 c3 c4
            subst e
            rw [h3] at g1
            injection g1 with g1; injection g1 with g1; subst g1
            rw [h2] at g3; exact g3.symm
      · exact .inl ⟨d.hp_at h, rfl⟩
    · have hsome : (comb n (applyE j o rs v2 (.side l))).at ro id = some b := at_get h
      have hm : (match findSs (rs.side.set j (some l)) 0 (2 ^ n - 1) id with
          | some b => some b
          | none => rs.hp.m.get id) = some b := by
        have h2 := h
        simp only [comb, applyE, addSs_get] at h2
        exact h2
      split at hm
      · rename_i b' hf
        obtain ⟨k, s, h1, _, h3⟩ := findSs_some hf
        have := (area' k s id b' h1 h3).2.2
        unfold Hp.at at this
        split at this
        · cases this
        · exact this
      · exact d.sep id b hm
    · have i1 : rs.hp.nxt ≤ id := i1
      omega
    · show w0.nxt ≤ b0 + j * stride
      omega
    · show hp'.nxt ≤ rs.hp.nxt
      omega
/-- An operation that only looks. -/
theorem DI.look (d : DI w0 F G ro nt n b0 stride dfr ρ0 listed rs a w ρ) (hj : j < n) (hr : Rel w0 F G ro ρ (comb n rs) w') {v2 : V} {x : Value} (hx : VR ρ v2 x) (hd : dstOk nt o.dst = true) :
    DI w0 F G ro nt n b0 stride dfr ρ0 (listed.setIfInBounds j true) (applyE j o rs v2 .keep) (a.put o.dst x) w' ρ :=
  ⟨d.le, hr, TR.put d.tr o.dst hx hd d.nt, by cases o.dst <;> exact d.dr, by rw [size_put]; exact d.nt, d.len, by simpa using d.lsz, fun k hk hlk => d.opn k hk (listed_set d.lsz hj hlk).2, d.area, d.nxt, d.sep, d.base⟩
/-- The heap on which an operation with effects works. -/
def effHp (rs : RS) (mask : Nat) : Hp := ⟨addSs rs.hp.m rs.side 0 mask, rs.hp.nxt, rs.hp.lim⟩
theorem effHp_at {mask id : Nat} : (effHp rs mask).at ro id = viewS ro rs mask id := by
  simp only [effHp, viewS, Hp.at, addSs_get]
  cases findSs rs.side 0 mask id <;> rfl
theorem DI.own_sep (d : DI w0 F G ro nt n b0 stride dfr ρ0 listed rs a w ρ) {mask : Nat} : (∀ id b, (effHp rs mask).at ro id = some b → (comb n rs).at ro id = some b) ∧ (∀ id b, (effHp rs mask).m.get id = some b → ro id = none) ∧ (∀ id b, (effHp rs mask).m.get id = some b → ∃ b', (comb n rs).m.get id = some b') := by
  have h1 : ∀ id b, (effHp rs mask).at ro id = some b → (comb n rs).at ro id = some b := fun id b h => d.view (mask := mask) (by rw [← effHp_at]; exact h)
  have h2 : ∀ id b, (effHp rs mask).m.get id = some b → ro id = none := fun id b h => by
    simp only [effHp, addSs_get] at h
    split at h
    · rename_i b' hf
      obtain ⟨k, s, q1, _, q3⟩ := findSs_some hf
      have := (d.area k s id b' q1 q3).2.2
      unfold Hp.at at this
      split at this
      · cases this
      · exact this
    · exact d.sep id b h
  refine ⟨h1, h2, fun id b h => ?_⟩
  have hs := h1 id b (at_get h)
  rcases at_split hs with q | ⟨_, q⟩
  · exact ⟨b, q⟩
  · rw [h2 id b h] at q; cases q
theorem DI.eff (d : DI w0 F G ro nt n b0 stride dfr ρ0 listed rs a w ρ) (hj : j < n) {mask : Nat} {hp' : Hp} {v2 : V} {x : Value} (hle : ρ.le ρ')
    (h' : Rel ⟨w, ρ, (effHp rs mask).nxt⟩ (OwnB ρ (effHp rs mask)) G ro ρ' hp' w') (hx : VR ρ' v2 x) (hd : dstOk nt o.dst = true) :
    DI w0 F G ro nt n b0 stride dfr ρ0 (listed.setIfInBounds j true) (applyE j o rs v2 (.heap hp' mask)) (a.put o.dst x) w' ρ' := by
  obtain ⟨s1, s2, s3⟩ := d.own_sep (mask := mask)
  have hnx := d.nxt
  have hb := d.base
  have hle0 : rs.hp.nxt ≤ hp'.nxt := h'.le0
  have areaHp' : ∀ (k : Nat) (s : Side) (id : Nat) (b : Blk), rs.side[k]? = some (some s) → Nat.testBit mask k = false → findS s id = some b → (comb n rs).at ro id = some b ∧ (effHp rs mask).m.get id = none ∧ ro id = none ∧ hp'.m.get id = none := by
    intro k s id b hk hm hf
    obtain ⟨a1, a2, a3⟩ := d.area k s id b hk hf
    have hkn : k < n := by rw [← d.len]; exact (List.getElem?_eq_some_iff.1 hk).1
    have hro : ro id = none ∧ rs.hp.m.get id = none := by
      unfold Hp.at at a3
      split at a3
      · cases a3
      · rename_i hg; exact ⟨a3, hg⟩
    have hcomb : (comb n rs).at ro id = some b := by
      refine d.view (mask := 2 ^ n - 1) ?_
      unfold viewS
      cases hf2 : findSs rs.side 0 (2 ^ n - 1) id with
      | none => rw [findSs_none hf2 k s hk (by rw [Nat.zero_add]; exact full_bit hkn)] at hf; cases hf
      | some b'' =>
        obtain ⟨k', s', g1, _, g3⟩ := findSs_some hf2
        obtain ⟨c1, c2, _⟩ := d.area k' s' id b'' g1 g3
        have e := area_disj c1 c2 a1 a2
        subst e
        rw [hk] at g1
        injection g1 with g1; injection g1 with g1; subst g1
        rw [hf] at g3; exact g3.symm
    have hown : (effHp rs mask).m.get id = none := by
      simp only [effHp, addSs_get]
      cases hf2 : findSs rs.side 0 mask id with
      | none => exact hro.2
      | some b'' =>
        obtain ⟨k', s', g1, g2, g3⟩ := findSs_some hf2
        obtain ⟨c1, c2, _⟩ := d.area k' s' id b'' g1 g3
        have e := area_disj c1 c2 a1 a2
        subst e
        rw [Nat.zero_add, hm] at g2; cases g2
    refine ⟨hcomb, hown, hro.1, ?_⟩
    cases hg : hp'.m.get id with
    | none => rfl
    | some b' =>
      exfalso
      obtain ⟨B', t', o', e1, e2, _, e4⟩ := h'.blk id b' (at_get hg)
      obtain ⟨B, t, o, f1, f2, _, _⟩ := d.rel.blk id b hcomb
      have := hle _ _ f1
      rw [e1] at this
      obtain ⟨rfl, rfl⟩ := Prod.mk.inj (Option.some.inj this)
      have hlt := lt_of_heap f2
      rcases e4.resolve_left (by rw [hg]; simp) with ⟨id0, b0', t0', g1, g2⟩ | e4
      · have := d.rel.inj _ _ _ _ _ _ _ hcomb (s1 id0 b0' (at_get g1)) f1 g2
        subst this
        rw [hown] at g1; cases g1
      · have : w.heap.size ≤ B' := e4
        omega
  have at' : ∀ id b, (comb n (applyE j o rs v2 (.heap hp' mask))).at ro id = some b → (∃ k s, rs.side[k]? = some (some s) ∧ Nat.testBit mask k = false ∧ findS s id = some b) ∨ hp'.at ro id = some b := fun id b h => by
    have e : (comb n (applyE j o rs v2 (.heap hp' mask))).at ro id = match findSs (clearS rs.side 0 mask) 0 (2 ^ n - 1) id with
        | some b => some b
        | none => hp'.at ro id := by
      simp only [comb, applyE, Hp.at, addSs_get]
      cases findSs (clearS rs.side 0 mask) 0 (2 ^ n - 1) id <;> rfl
    rw [e] at h
    split at h
    · rename_i b' hf
      injection h with h; subst h
      obtain ⟨k, s, h1, _, h3⟩ := findSs_some hf
      obtain ⟨h4, h5⟩ := clearS_get h1
      exact .inl ⟨k, s, h4, by rw [Nat.zero_add] at h5; exact h5, h3⟩
    · exact .inr h
  refine ⟨d.le.trans hle, ?_, TR.put (TR.mono hle d.tr) o.dst hx hd d.nt, by cases o.dst <;> exact DR.mono hle d.dr, by rw [size_put]; exact d.nt, by simp [applyE, clearS_length, d.len], by simpa using d.lsz, fun k hk hlk => ?_, fun k s id b hk hs => ?_, ?_, h'.sep, d.base⟩
  · refine Rel.after (own := effHp rs mask) d.rel s1 s2 s3 hle h' (fun id b h => ?_) (fun id b h => ?_) (fun id i1 i2 => ⟨?_, i2, fun ⟨_, i4⟩ => ?_⟩) hle0 ?_ (Nat.le_refl _)
    · rcases at' id b h with ⟨k, s, h1, h2, h3⟩ | h
      · obtain ⟨q1, q2, _⟩ := areaHp' k s id b h1 h2 h3
        exact .inl ⟨q1, q2⟩
      · exact .inr h
    · simp only [comb, applyE, addSs_get] at h
      split at h
      · rename_i b' hf
        obtain ⟨k, s, h1, _, h3⟩ := findSs_some hf
        obtain ⟨h4, h5⟩ := clearS_get h1
        exact (areaHp' k s id b' h4 (by rw [Nat.zero_add] at h5; exact h5) h3).2.2.1
      · exact h'.sep id b h
    · have i1 : hp'.nxt ≤ id := i1
      show rs.hp.nxt ≤ id
      omega
    · have i1 : hp'.nxt ≤ id := i1
      omega
    · show w0.nxt ≤ rs.hp.nxt
      omega
  · obtain ⟨hne, hlk'⟩ := listed_set d.lsz hj hlk
    obtain ⟨o1, o2⟩ := d.opn k hk hlk'
    refine ⟨clearS_none o1, fun id i1 i2 => ?_⟩
    cases hr : ρ' id with
    | none => rfl
    | some y =>
      rcases h'.ren id y hr with k1 | k1
      · have : ρ id = some y := k1
        rw [o2 id i1 i2] at this; cases this
      · have k2 : rs.hp.nxt ≤ id := k1.1
        have := area_top (b0 := b0) (s := stride) hk
        omega
  · obtain ⟨h4, h5⟩ := clearS_get hk
    rw [Nat.zero_add] at h5
    obtain ⟨a1, a2, _⟩ := d.area k s id b h4 hs
    obtain ⟨_, _, q3, q4⟩ := areaHp' k s id b h4 h5 hs
    refine ⟨a1, a2, ?_⟩
    simp [applyE, Hp.at, q4, q3]
  · show b0 + n * stride ≤ hp'.nxt
    omega
end
end Go.Ev
