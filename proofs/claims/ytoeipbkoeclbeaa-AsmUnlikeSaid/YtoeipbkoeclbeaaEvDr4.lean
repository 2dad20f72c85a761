/- Own text: operations of a region whose order is open: each one in the world. -/
import Derived.Test.YtoeipbkoeclbeaaEvDr3
namespace Go.Ev
section
variable {P : Program} {E : Env} {G : Nat} {ρ ρ' : Ren} {w0 : Base} {w w' : World} {F : Nat → Prop} {ro view : RO} {H H' own own' : Hp}
/-- Which blocks of the world a heap owns. -/
def OwnB (ρ : Ren) (own : Hp) (B : Nat) : Prop := ∃ id b tot, own.m.get id = some b ∧ ρ id = some (B, tot)
/-- A part of the heap as a heap of its own. -/
theorem Rel.rebase (hr : Rel w0 F G ro ρ H w) (hv : ∀ id b, own.at view id = some b → H.at ro id = some b) (hs : ∀ id b, own.m.get id = some b → view id = none)
    (hf : ∀ id, own.nxt ≤ id → id < own.lim → ρ id = none) : Rel ⟨w, ρ, own.nxt⟩ (OwnB ρ own) G view ρ own w := by
  refine ⟨fun id b h => ?_, fun i j b c B t t' hi hj => hr.inj i j b c B t t' (hv _ _ hi) (hv _ _ hj), hs, hf, fun _ _ _ => rfl, Nat.le_refl _, rfl, rfl, rfl, hr.glob, fun id x h => .inl h, Nat.le_refl _⟩
  obtain ⟨B, t, o, h1, h2, h3, _⟩ := hr.blk id b (hv id b h)
  refine ⟨B, t, o, h1, h2, h3, ?_⟩
  cases hg : own.m.get id with
  | none => exact .inl rfl
  | some b' => exact .inr (.inl ⟨id, b', t, hg, h1⟩)
theorem at_split {hp : Hp} {id : Nat} {b : Blk} (h : hp.at ro id = some b) : hp.m.get id = some b ∨ (hp.m.get id = none ∧ ro id = some b) := by
  unfold Hp.at at h
  split at h
  · rename_i b' hb; injection h with h; subst h; exact .inl hb
  · rename_i hb; exact .inr ⟨hb, h⟩
theorem at_get {hp : Hp} {id : Nat} {b : Blk} (h : hp.m.get id = some b) : hp.at ro id = some b := by simp [Hp.at, h]
/-- What was not the part's own is as it was. -/
theorem kept (hr : Rel w0 F G ro ρ H w) (hv : ∀ id b, own.at view id = some b → H.at ro id = some b) (h' : Rel ⟨w, ρ, own.nxt⟩ (OwnB ρ own) G view ρ' own' w')
    {id : Nat} {b : Blk} (hb : H.at ro id = some b) (hn : own.m.get id = none) {B tot : Nat} (hB : ρ id = some (B, tot)) : ¬ OwnB ρ own B ∧ B < w.heap.size ∧ w'.heap[B]? = w.heap[B]? := by
  obtain ⟨B', t', o, h1, h2, _, _⟩ := hr.blk id b hb
  rw [hB] at h1
  obtain ⟨rfl, rfl⟩ := Prod.mk.inj (Option.some.inj h1)
  have hno : ¬ OwnB ρ own B := by
    intro ⟨id', b', t', g1, g2⟩
    have := hr.inj _ _ _ _ _ _ _ hb (hv id' b' (at_get g1)) hB g2
    subst this
    rw [hn] at g1; cases g1
  have hlt := lt_of_heap h2
  exact ⟨hno, hlt, h'.frame B hlt hno⟩
/-- After a part has run: the whole. -/
theorem Rel.after (hr : Rel w0 F G ro ρ H w) (hv : ∀ id b, own.at view id = some b → H.at ro id = some b) (hs : ∀ id b, own.m.get id = some b → view id = none) (ho : ∀ id b, own.m.get id = some b → ∃ b', H.m.get id = some b')
    (hle : ρ.le ρ') (h' : Rel ⟨w, ρ, own.nxt⟩ (OwnB ρ own) G view ρ' own' w')
    (m1 : ∀ id b, H'.at ro id = some b → (H.at ro id = some b ∧ own.m.get id = none) ∨ own'.at view id = some b) (m2 : ∀ id b, H'.m.get id = some b → ro id = none)
    (n1 : ∀ id, H'.nxt ≤ id → id < H'.lim → H.nxt ≤ id ∧ id < H.lim ∧ ¬ (own.nxt ≤ id ∧ id < own'.nxt)) (n2 : H.nxt ≤ H'.nxt) (n3 : w0.nxt ≤ own.nxt) (n4 : own'.nxt ≤ H'.nxt) :
    Rel w0 F G ro ρ' H' w' := by
  have ownF : ∀ id b, own.m.get id = some b → ∀ B t, ρ id = some (B, t) → F B ∨ w0.heap.size ≤ B := fun id b hb B t hB => by
    obtain ⟨b', hb'⟩ := ho id b hb
    obtain ⟨B', t', o, h1, _, _, h4⟩ := hr.blk id b' (at_get hb')
    rw [hB] at h1
    obtain ⟨rfl, rfl⟩ := Prod.mk.inj (Option.some.inj h1)
    exact h4.resolve_left (by rw [hb']; simp)
  have ownB : ∀ B, OwnB ρ own B → F B ∨ w0.heap.size ≤ B := fun B ⟨id, b, t, g1, g2⟩ => ownF id b g1 B t g2
  -- a block that is in the part's view alone
  have viewOld : ∀ id b, own'.m.get id = none → own'.at view id = some b → H.at ro id = some b ∧ own.m.get id = none := fun id b hn hb => by
    rcases at_split hb with h1 | ⟨_, h1⟩
    · rw [hn] at h1; cases h1
    · have hon : own.m.get id = none := by
        cases hg : own.m.get id with
        | none => rfl
        | some b' => rw [hs id b' hg] at h1; cases h1
      exact ⟨hv id b (by simp [Hp.at, hon, h1]), hon⟩
  have old : ∀ id b, H.at ro id = some b → own.m.get id = none → ∃ B tot o, ρ' id = some (B, tot) ∧ ρ id = some (B, tot) ∧ w'.heap[B]? = some o ∧ BR ρ' tot b o ∧ (H'.m.get id = none ∨ F B ∨ w0.heap.size ≤ B) ∧ ¬ OwnB ρ own B ∧ B < w.heap.size := fun id b hb hn => by
    obtain ⟨B, t, o, h1, h2, h3, h4⟩ := hr.blk id b hb
    obtain ⟨k1, k2, k3⟩ := kept hr hv h' hb hn h1
    refine ⟨B, t, o, hle _ _ h1, h1, by rw [k3]; exact h2, BR.mono hle _ _ h3, ?_, k1, k2⟩
    cases hg : H'.m.get id with
    | none => exact .inl rfl
    | some b' =>
      have hro := m2 id b' hg
      rcases at_split hb with q | ⟨_, q⟩
      · exact .inr (h4.resolve_left (by rw [q]; simp))
      · rw [hro] at q; cases q
  have new : ∀ id b, own'.at view id = some b → own'.m.get id ≠ none → ∃ B tot o, ρ' id = some (B, tot) ∧ w'.heap[B]? = some o ∧ BR ρ' tot b o ∧ (OwnB ρ own B ∨ w.heap.size ≤ B) := fun id b hb hn => by
    obtain ⟨B, t, o, h1, h2, h3, h4⟩ := h'.blk id b hb
    exact ⟨B, t, o, h1, h2, h3, h4.resolve_left hn⟩
  have m1' : ∀ id b, H'.at ro id = some b → (H.at ro id = some b ∧ own.m.get id = none) ∨ (own'.at view id = some b ∧ own'.m.get id ≠ none) := fun id b hb => by
    rcases m1 id b hb with h | h
    · exact .inl h
    · by_cases hn : own'.m.get id = none
      · exact .inl (viewOld id b hn h)
      · exact .inr ⟨h, hn⟩
  refine ⟨fun id b h => ?_, fun i j b c B t t' hi hj r1 r2 => ?_, m2, fun id h1 h2 => ?_, fun B hB hF => ?_, Nat.le_trans hr.size h'.size, h'.tape.trans hr.tape, h'.os.trans hr.os, h'.output.trans hr.output, h'.glob, fun id x h => ?_, Nat.le_trans hr.le0 n2⟩
  · rcases m1' id b h with ⟨h1, h2⟩ | ⟨h1, h2⟩
    · obtain ⟨B, t, o, k1, _, k2, k3, k4, _⟩ := old id b h1 h2
      exact ⟨B, t, o, k1, k2, k3, k4⟩
    · obtain ⟨B, t, o, k1, k2, k3, k4⟩ := new id b h1 h2
      refine ⟨B, t, o, k1, k2, k3, .inr ?_⟩
      rcases k4 with k4 | k4
      · exact ownB B k4
      · exact .inr (Nat.le_trans hr.size k4)
  · rcases m1' i b hi with ⟨h1, h2⟩ | ⟨h1, h2⟩ <;> rcases m1' j c hj with ⟨h3, h4⟩ | ⟨h3, h4⟩
    · obtain ⟨B1, t1, _, k1, k2, _⟩ := old i b h1 h2
      obtain ⟨B2, t2, _, k3, k4, _⟩ := old j c h3 h4
      rw [r1] at k1; rw [r2] at k3
      obtain ⟨rfl, rfl⟩ := Prod.mk.inj (Option.some.inj k1)
      obtain ⟨rfl, rfl⟩ := Prod.mk.inj (Option.some.inj k3)
      exact hr.inj _ _ _ _ _ _ _ h1 h3 k2 k4
    · exfalso
      obtain ⟨B1, t1, _, k1, k2, _, _, _, k5, k6⟩ := old i b h1 h2
      obtain ⟨B2, t2, _, k3, _, _, k4⟩ := new j c h3 h4
      rw [r1] at k1; rw [r2] at k3
      obtain ⟨rfl, rfl⟩ := Prod.mk.inj (Option.some.inj k1)
      obtain ⟨rfl, rfl⟩ := Prod.mk.inj (Option.some.inj k3)
      rcases k4 with k4 | k4
      · exact k5 k4
      · omega
    · exfalso
      obtain ⟨B1, t1, _, k1, k2, _, _, _, k5, k6⟩ := old j c h3 h4
      obtain ⟨B2, t2, _, k3, _, _, k4⟩ := new i b h1 h2
      rw [r2] at k1; rw [r1] at k3
      obtain ⟨rfl, rfl⟩ := Prod.mk.inj (Option.some.inj k1)
      obtain ⟨rfl, rfl⟩ := Prod.mk.inj (Option.some.inj k3)
      rcases k4 with k4 | k4
      · exact k5 k4
      · omega
    · exact h'.inj _ _ _ _ _ _ _ h1 h3 r1 r2
  · obtain ⟨g1, g2, g3⟩ := n1 id h1 h2
    cases hx : ρ' id with
    | none => rfl
    | some x =>
      rcases h'.ren id x hx with k | k
      · have : ρ id = some x := k
        rw [hr.fresh id g1 g2] at this; cases this
      · exact absurd k g3
  · rw [h'.frame B (Nat.lt_of_lt_of_le hB hr.size) fun h => by
      rcases ownB B h with h1 | h1
      · exact hF h1
      · omega]
    exact hr.frame B hB hF
  · rcases h'.ren id x h with k | k
    · rcases hr.ren id x k with k | k
      · exact .inl k
      · exact .inr ⟨k.1, by omega⟩
    · have k1 : own.nxt ≤ id := k.1
      exact .inr ⟨by omega, by omega⟩
/-- After a part that owned nothing: the whole as it was. -/
theorem Rel.looked (hr : Rel w0 F G ro ρ H w) (hv : ∀ id b, own.at view id = some b → H.at ro id = some b) (hn : ∀ id, own.m.get id = none) (h' : Rel ⟨w, ρ, own.nxt⟩ (OwnB ρ own) G view ρ' own' w') : Rel w0 F G ro ρ H w' := by
  have hno : ∀ B, ¬ OwnB ρ own B := fun B ⟨id, b, _, g, _⟩ => by rw [hn id] at g; cases g
  refine ⟨fun id b h => ?_, hr.inj, hr.sep, hr.fresh, fun B hB hF => ?_, Nat.le_trans hr.size h'.size, h'.tape.trans hr.tape, h'.os.trans hr.os, h'.output.trans hr.output, hr.glob, hr.ren, hr.le0⟩
  · obtain ⟨B, t, o, h1, h2, h3, h4⟩ := hr.blk id b h
    obtain ⟨_, _, k⟩ := kept hr hv h' h (hn id) h1
    exact ⟨B, t, o, h1, by rw [k]; exact h2, h3, h4⟩
  · rw [h'.frame B (Nat.lt_of_lt_of_le hB hr.size) (hno B)]
    exact hr.frame B hB hF
end
mutual
/-- A value that leads to what was there alone. -/
theorem under_mono {ρ ρ' : Ren} {n : Nat} (h' : ∀ id x, ρ' id = some x → id < n → ρ id = some x) : ∀ (v : V) (x : Value), V.under n v = true → VR ρ' v x → VR ρ v x
  | .any, _, h, _ => by simp [V.under] at h
  | .bool _, _, _, h => h
  | .sbool _, _, _, h => h
  | .int .., _, _, h => h
  | .str _, _, _, h => h
  | .ssym _, _, _, h => h
  | .nilp, _, _, h => h
  | .ptr b o, _, hu, ⟨B, tot, m, h1, h2⟩ => ⟨B, tot, m, h' _ _ h1 (Nat.le_of_ble_eq_true hu), h2⟩
  | .nils, _, _, h => h
  | .slice b .., _, hu, ⟨B, tot, m, len, cap, h1, h2⟩ => ⟨B, tot, m, len, cap, h' _ _ h1 (Nat.le_of_ble_eq_true hu), h2⟩
  | .nilm, _, _, h => h
  | .map b, _, hu, ⟨B, tot, h1, h2⟩ => ⟨B, tot, h' _ _ h1 (Nat.le_of_ble_eq_true hu), h2⟩
  | .func _ first cap, _, hu, ⟨f, c, h1, h2, h3⟩ => by
    simp only [V.under, Bool.and_eq_true] at hu
    exact ⟨f, c, h1, unders_mono h' first f hu.1 h2, unders_mono h' cap c hu.2 h3⟩
  | .nilf, _, _, h => h
  | .iface _ x, _, hu, ⟨y, h1, h2⟩ => ⟨y, h1, under_mono h' x y hu h2⟩
  | .nili, _, _, h => h
  | .agg cs, _, hu, ⟨l, h1, h2⟩ => ⟨l, h1, unders_mono h' cs l hu h2⟩
  | .tup cs, _, hu, ⟨l, h1, h2⟩ => ⟨l, h1, unders_mono h' cs l hu h2⟩
theorem unders_mono {ρ ρ' : Ren} {n : Nat} (h' : ∀ id x, ρ' id = some x → id < n → ρ id = some x) : ∀ (vs : List V) (l : List Value), unders n vs = true → VRs ρ' vs l → VRs ρ vs l
  | [], _, _, h => h
  | v :: vs, _, hu, ⟨x, xs, h1, h2, h3⟩ => by
    simp only [unders, Bool.and_eq_true] at hu
    exact ⟨x, xs, h1, under_mono h' v x hu.1 h2, unders_mono h' vs xs hu.2 h3⟩
end
/-! ### the side blocks and the whole -/
theorem addS_get {m : Tr Blk} : ∀ {l : Side} {id : Nat}, (addS m l).get id = match findS l id with
    | some b => some b
    | none => m.get id
  | [], _ => rfl
  | (j, b) :: r, id => by
    simp only [addS, findS, Tr.get_set]
    by_cases h : id = j
    · subst h; simp
    · rw [if_neg h]
      have : Nat.beq j id = false := by
        cases hb : Nat.beq j id
        · rfl
        · exact absurd (Nat.eq_of_beq_eq_true hb).symm h
      rw [this, addS_get]
theorem addSs_get {m : Tr Blk} {mask : Nat} : ∀ {l : List (Option Side)} {i id : Nat}, (addSs m l i mask).get id = match findSs l i mask id with
    | some b => some b
    | none => m.get id
  | [], _, _ => rfl
  | s :: r, i, id => by
    cases ht : Nat.testBit mask i
    · simp only [addSs, findSs, ht, addSs_get (l := r) (i := i + 1)]
    · cases s with
      | none => simp only [addSs, findSs, ht, addSs_get (l := r) (i := i + 1)]
      | some l =>
        simp only [addSs, findSs, ht, addS_get, addSs_get (l := r) (i := i + 1)]
        cases findS l id <;> rfl
theorem findSs_some {mask id : Nat} {b : Blk} : ∀ {l : List (Option Side)} {i : Nat}, findSs l i mask id = some b → ∃ k s, l[k]? = some (some s) ∧ Nat.testBit mask (i + k) = true ∧ findS s id = some b
  | [], _, h => by cases h
  | s :: r, i, h => by
    have hrec : findSs r (i + 1) mask id = some b → ∃ k s', (s :: r)[k]? = some (some s') ∧ Nat.testBit mask (i + k) = true ∧ findS s' id = some b := fun h => by
      obtain ⟨k, s', h1, h2, h3⟩ := findSs_some h
      exact ⟨k + 1, s', by simpa using h1, by rw [show i + (k + 1) = i + 1 + k by omega]; exact h2, h3⟩
    cases ht : Nat.testBit mask i
    · simp only [findSs, ht] at h; exact hrec h
    · cases s with
      | none => simp only [findSs, ht] at h; exact hrec h
      | some l =>
        simp only [findSs, ht] at h
        split at h
        · rename_i b' hb
          injection h with h; subst h
          exact ⟨0, l, rfl, ht, hb⟩
        · exact hrec h
theorem findSs_none {mask id : Nat} : ∀ {l : List (Option Side)} {i : Nat}, findSs l i mask id = none → ∀ k s, l[k]? = some (some s) → Nat.testBit mask (i + k) = true → findS s id = none
  | [], _, _, k, _, h, _ => by simp at h
  | s :: r, i, h, k, s', hk, ht => by
    have hr : findSs r (i + 1) mask id = none := by
      cases hb : Nat.testBit mask i
      · simp only [findSs, hb] at h; exact h
      · cases s with
        | none => simp only [findSs, hb] at h; exact h
        | some l =>
          simp only [findSs, hb] at h
          split at h
          · cases h
          · exact h
    cases k with
    | zero =>
      simp only [List.getElem?_cons_zero, Option.some.injEq] at hk
      subst hk
      simp only [findSs, show Nat.testBit mask i = true from ht] at h
      split at h
      · cases h
      · assumption
    | succ k =>
      simp only [List.getElem?_cons_succ] at hk
      exact findSs_none hr k s' hk (by rw [show i + 1 + k = i + (k + 1) by omega]; exact ht)
theorem clearS_get {mask : Nat} : ∀ {l : List (Option Side)} {i k : Nat} {s : Side}, (clearS l i mask)[k]? = some (some s) → l[k]? = some (some s) ∧ Nat.testBit mask (i + k) = false
  | [], _, _, _, h => by simp [clearS] at h
  | s :: r, i, 0, s', h => by
    simp only [clearS, List.getElem?_cons_zero, Option.some.injEq] at h
    split at h
    · cases h
    · rename_i ht; subst h; exact ⟨rfl, ht⟩
  | s :: r, i, k + 1, s', h => by
    simp only [clearS, List.getElem?_cons_succ] at h
    obtain ⟨h1, h2⟩ := clearS_get h
    exact ⟨by simpa using h1, by rw [show i + (k + 1) = i + 1 + k by omega]; exact h2⟩
theorem clearS_length {mask : Nat} : ∀ (l : List (Option Side)) (i : Nat), (clearS l i mask).length = l.length
  | [], _ => rfl
  | s :: r, i => by simp [clearS, clearS_length r (i + 1)]
theorem clearS_none {mask : Nat} : ∀ {l : List (Option Side)} {i k : Nat}, l[k]? = some none → (clearS l i mask)[k]? = some none
  | [], _, _, h => by simp at h
  | s :: r, i, 0, h => by
    simp only [List.getElem?_cons_zero, Option.some.injEq] at h
    subst h
    simp only [clearS, List.getElem?_cons_zero]
    split <;> rfl
  | s :: r, i, k + 1, h => by
    simp only [List.getElem?_cons_succ] at h
    simp only [clearS, List.getElem?_cons_succ]
    exact clearS_none h
theorem sideOf_find {m : Tr Blk} : ∀ {n f : Nat} {l : Side} {id : Nat} {b : Blk}, sideOf m f n = some l → findS l id = some b → m.get id = some b ∧ f ≤ id ∧ id < f + n
  | 0, f, l, id, b, h, h' => by injection h with h; subst h; cases h'
  | n + 1, f, l, id, b, h, h' => by
    unfold sideOf at h
    split at h <;> try contradiction
    rename_i b' r h1 h2
    injection h with h; subst h
    simp only [findS] at h'
    split at h'
    · rename_i hb
      have e := Nat.eq_of_beq_eq_true hb
      subst e
      injection h' with h'; subst h'
      exact ⟨h1, by omega, by omega⟩
    · obtain ⟨g1, g2, g3⟩ := sideOf_find h2 h'
      exact ⟨g1, by omega, by omega⟩
end Go.Ev
