/- Own text: a told loop that knows of some blocks alone; the others are as they were. -/
import Derived.Test.YtlmacdfbdhpljaaGreatDoorSl
namespace Go.Ev
open Go.Ev.Tr
def keepB (m : Tr Blk) : List Nat → Tr Blk
  | [] => .lf
  | b :: r => (keepB m r).set b (m.get b)
theorem keepB_get {m : Tr Blk} {b : Nat} : ∀ {ids : List Nat}, (keepB m ids).get b = if memN b ids then m.get b else none
  | [] => by simp [keepB, memN, Tr.get]
  | a :: r => by
    simp only [keepB, Tr.get_set]
    by_cases e : b = a
    · subst e
      have hm : memN b (b :: r) = true := by simp [memN]
      rw [if_pos rfl, if_pos hm]
    · rw [if_neg e, keepB_get]
      have : memN b (a :: r) = memN b r := by
        simp only [memN]
        cases hq : Nat.beq a b with
        | false => rfl
        | true => exact absurd (Nat.eq_of_beq_eq_true hq).symm e
      rw [this]
def allIn (m : Tr Blk) : List Nat → Bool
  | [] => true
  | b :: r => match m.get b with
    | some _ => allIn m r
    | none => false
theorem allIn_get {m : Tr Blk} : ∀ {ids : List Nat}, allIn m ids = true → ∀ id, memN id ids = true → ∃ b, m.get id = some b
  | [], _, id, h => by cases h
  | a :: r, h, id, hi => by
    unfold allIn at h
    split at h <;> try contradiction
    rename_i c hc
    simp only [memN, Bool.or_eq_true] at hi
    rcases hi with hi | hi
    · have := Nat.eq_of_beq_eq_true hi
      subst this
      exact ⟨c, hc⟩
    · exact allIn_get h id hi
def ownHook (ids : List Nat) (f : St → T (X × St)) (st : St) : T (X × St) := match allIn st.hp.m ids with
  | true => (f ⟨st.tmps, st.dfr, ⟨keepB st.hp.m ids, st.hp.nxt, st.hp.lim⟩⟩).bind fun r => .ret (r.1, ⟨r.2.tmps, r.2.dfr, ⟨backB r.2.hp.m st.hp.m ids, r.2.hp.nxt, r.2.hp.lim⟩⟩)
  | false => .fail
/-- The blocks of those numbers. -/
def InIds (ρ : Ren) (ids : List Nat) (B : Nat) : Prop := ∃ id t, memN id ids = true ∧ ρ id = some (B, t)
section
variable {P : Program} {E : Env} {w0 : Base} {F : Nat → Prop} {G : Nat} {ρ : Ren} {hp : Hp} {w : World} {ro : RO} {nt : Nat}
theorem Rel.keep (hr : Rel w0 F G ro ρ hp w) (ids : List Nat) : Rel ⟨w, ρ, hp.nxt⟩ (InIds ρ ids) G noRO ρ ⟨keepB hp.m ids, hp.nxt, hp.lim⟩ w := by
  have known : ∀ id b, Hp.at noRO ⟨keepB hp.m ids, hp.nxt, hp.lim⟩ id = some b → memN id ids = true ∧ hp.m.get id = some b := fun id b h => by
    have h1 : (keepB hp.m ids).get id = some b := noRO_at h
    rw [keepB_get] at h1
    split at h1
    · rename_i hm; exact ⟨hm, h1⟩
    · cases h1
  refine ⟨fun id b h => ?_, fun i j b c B t t' hi hj e1 e2 => ?_, fun id b h => rfl, hr.fresh, fun _ _ _ => rfl, Nat.le_refl _, rfl, rfl, rfl, hr.glob, fun id x hx => .inl hx, Nat.le_refl _, hr.fz.keep, fun id b B t h1 h2 => ?_, fun B l h => .inl h⟩
  · obtain ⟨h1, h2⟩ := known id b h
    obtain ⟨B, t, o, e1, e2, e3, _⟩ := hr.blk id b (at_get h2)
    exact ⟨B, t, o, e1, e2, e3, .inr (.inl ⟨id, t, h1, e1⟩)⟩
  · obtain ⟨_, h1⟩ := known i b hi
    obtain ⟨_, h2⟩ := known j c hj
    exact .inl ((hr.inj _ _ _ _ _ _ _ (at_get h1) (at_get h2) e1 e2).resolve_right fun q => by rw [h1] at q; cases q.1)
  · obtain ⟨_, h3⟩ := known id b (at_get h1)
    exact hr.fz.sep _ _ _ _ h3 h2
theorem Rel.back (hr : Rel w0 F G ro ρ hp w) {ids : List Nat} (hin : allIn hp.m ids = true) {ρ' : Ren} {hp' : Hp} {w' : World} (hle : ρ.le ρ') (k : Rel ⟨w, ρ, hp.nxt⟩ (InIds ρ ids) G noRO ρ' hp' w') :
    Rel w0 F G ro ρ' ⟨backB hp'.m hp.m ids, hp'.nxt, hp'.lim⟩ w' := by
  have own : ∀ id, memN id ids = true → ∃ b, hp.m.get id = some b := allIn_get hin
  -- who is who
  have split' : ∀ id b, Hp.at ro ⟨backB hp'.m hp.m ids, hp'.nxt, hp'.lim⟩ id = some b → (memN id ids = true ∧ hp'.m.get id = some b) ∨ (memN id ids = false ∧ hp.at ro id = some b ∧ ((backB hp'.m hp.m ids).get id = none → hp.m.get id = none)) := fun id b h => by
    have eg : (backB hp'.m hp.m ids).get id = if memN id ids then hp'.m.get id else hp.m.get id := backB_get
    rcases at_split h with h1 | ⟨h1, h2⟩
    · have h1 : (backB hp'.m hp.m ids).get id = some b := h1
      rw [eg] at h1
      cases hm : memN id ids with
      | true => rw [hm] at h1; exact .inl ⟨rfl, h1⟩
      | false => rw [hm] at h1; exact .inr ⟨rfl, at_get h1, fun q => by rw [eg, hm] at q; exact q⟩
    · cases hm : memN id ids with
      | true =>
        obtain ⟨c, hc⟩ := own id hm
        rw [hr.sep id c hc] at h2; cases h2
      | false => exact .inr ⟨rfl, hr.at_ro' h2, fun q => by rw [eg, hm] at q; exact q⟩
  have notIn : ∀ id b B t, memN id ids = false → hp.at ro id = some b → ρ id = some (B, t) → ¬ InIds ρ ids B := fun id b B t hm h1 h2 ⟨id', t', q1, q2⟩ => by
    obtain ⟨c, hc⟩ := own id' q1
    rcases hr.inj _ _ _ _ _ _ _ h1 (at_get hc) h2 q2 with e | ⟨_, e⟩
    · subst e; rw [hm] at q1; cases q1
    · rw [hc] at e; cases e
  have inF : ∀ B, InIds ρ ids B → F B ∨ w0.heap.size ≤ B := fun B ⟨id, t, q1, q2⟩ => by
    obtain ⟨c, hc⟩ := own id q1
    obtain ⟨B', t', o, e1, _, _, e4⟩ := hr.blk id c (at_get hc)
    rw [q2] at e1
    obtain ⟨rfl, rfl⟩ := Prod.mk.inj (Option.some.inj e1)
    exact e4.resolve_left (by rw [hc]; simp)
  have oldB : ∀ id b, memN id ids = false → hp.at ro id = some b → ∃ B t o, ρ id = some (B, t) ∧ ρ' id = some (B, t) ∧ w'.heap[B]? = some o ∧ BR ρ' t b o ∧ B < w.heap.size ∧ ¬ InIds ρ ids B ∧ (hp.m.get id = none ∨ F B ∨ w0.heap.size ≤ B) := fun id b hm h => by
    obtain ⟨B, t, o, e1, e2, e3, e4⟩ := hr.blk id b h
    have hlt := lt_of_heap e2
    have hn := notIn id b B t hm h e1
    refine ⟨B, t, o, e1, hle id _ e1, ?_, BR.mono hle _ _ e3, hlt, hn, e4⟩
    rw [k.frame B hlt hn]; exact e2
  have newB : ∀ id b B t, memN id ids = true → hp'.m.get id = some b → ρ' id = some (B, t) → InIds ρ ids B ∨ w.heap.size ≤ B := fun id b B t _ h e => by
    obtain ⟨B', t', o, e1, _, _, e4⟩ := k.blk id b (at_get h)
    rw [e] at e1
    obtain ⟨rfl, rfl⟩ := Prod.mk.inj (Option.some.inj e1)
    exact e4.resolve_left (by rw [h]; simp)
  have apart : ∀ i j b c B t t', memN i ids = true → hp'.m.get i = some b → memN j ids = false → hp.at ro j = some c → ρ' i = some (B, t) → ρ' j = some (B, t') → False := fun i j b c B t t' m1 h1 m2 h2 e1 e2 => by
    obtain ⟨B', t2, o, q1, q2, _, _, q3, q4, _⟩ := oldB j c m2 h2
    rw [e2] at q2
    obtain ⟨rfl, rfl⟩ := Prod.mk.inj (Option.some.inj q2)
    rcases newB i b B t m1 h1 e1 with h | h
    · exact q4 h
    · omega
  refine ⟨fun id b h => ?_, fun i j b c B t t' hi hj e1 e2 => ?_, fun id b h => ?_, k.fresh, fun B hB hF => ?_, Nat.le_trans hr.size k.size, k.tape.trans hr.tape, k.os.trans hr.os, k.output.trans hr.output, k.glob, fun id x hx => ?_, Nat.le_trans hr.le0 k.le0, k.fz.keep, fun id b B t h1 h2 => ?_, fun B l h => ?_⟩
  · rcases split' id b h with ⟨hm, h1⟩ | ⟨hm, h1, h2⟩
    · obtain ⟨B, t, o, e1, e2, e3, e4⟩ := k.blk id b (at_get h1)
      refine ⟨B, t, o, e1, e2, e3, .inr ?_⟩
      rcases newB id b B t hm h1 e1 with q | q
      · exact inF B q
      · exact .inr (Nat.le_trans hr.size q)
    · obtain ⟨B, t, o, _, e1, e2, e3, _, _, e4⟩ := oldB id b hm h1
      refine ⟨B, t, o, e1, e2, e3, ?_⟩
      rcases e4 with e4 | e4
      · left
        show (backB hp'.m hp.m ids).get id = none
        rw [backB_get, hm]; exact e4
      · exact .inr e4
  · rcases split' i b hi with ⟨m1, h1⟩ | ⟨m1, h1, _⟩ <;> rcases split' j c hj with ⟨m2, h2⟩ | ⟨m2, h2, _⟩
    · exact .inl ((k.inj _ _ _ _ _ _ _ (at_get h1) (at_get h2) e1 e2).resolve_right fun q => by rw [h1] at q; cases q.1)
    · exact (apart i j b c B t t' m1 h1 m2 h2 e1 e2).elim
    · exact (apart j i c b B t' t m2 h2 m1 h1 e2 e1).elim
    · obtain ⟨B1, t1, o1, q1, q2, _⟩ := oldB i b m1 h1
      obtain ⟨B2, t2, o2, q3, q4, _⟩ := oldB j c m2 h2
      rw [e1] at q2; rw [e2] at q4
      obtain ⟨rfl, rfl⟩ := Prod.mk.inj (Option.some.inj q2)
      obtain ⟨rfl, rfl⟩ := Prod.mk.inj (Option.some.inj q4)
      rcases hr.inj _ _ _ _ _ _ _ h1 h2 q1 q3 with q | ⟨g1, g2⟩
      · exact .inl q
      · refine .inr ⟨?_, ?_⟩
        · show (backB hp'.m hp.m ids).get i = none
          rw [backB_get, m1]; exact g1
        · show (backB hp'.m hp.m ids).get j = none
          rw [backB_get, m2]; exact g2
  · have h : (backB hp'.m hp.m ids).get id = some b := h
    rw [backB_get] at h
    cases hm : memN id ids with
    | true =>
      obtain ⟨c, hc⟩ := own id hm
      exact hr.sep id c hc
    | false => rw [hm] at h; exact hr.sep id b h
  · have hlt : B < w.heap.size := Nat.lt_of_lt_of_le hB hr.size
    have hn : ¬ InIds ρ ids B := fun q => by
      rcases inF B q with q | q
      · exact hF q
      · omega
    have := k.frame B hlt hn
    rw [this]; exact hr.frame B hB hF
  · rcases k.ren id x hx with q | q
    · rcases hr.ren id x q with g | g
      · exact .inl g
      · exact .inr ⟨g.1, Nat.lt_of_lt_of_le g.2 k.le0⟩
    · exact .inr ⟨Nat.le_trans hr.le0 q.1, q.2⟩
  · have h1' : (backB hp'.m hp.m ids).get id = some b := h1
    rcases split' id b (at_get h1') with ⟨hm, g1⟩ | ⟨hm, g1, _⟩
    · exact k.fz.sep _ _ _ _ g1 h2
    · rw [backB_get, hm] at h1'
      obtain ⟨B', t', o, q1, q2, _, _, q3, q4, _⟩ := oldB id b hm g1
      rw [h2] at q2
      obtain ⟨rfl, rfl⟩ := Prod.mk.inj (Option.some.inj q2)
      cases hq : ρ'.H B with
      | none => rfl
      | some l =>
        exfalso
        rcases k.fz.new B l hq with g | g | g
        · rw [hr.fz.sep _ _ _ _ h1' q1] at g; cases g
        · exact q4 g
        · have g : w.heap.size ≤ B := g
          omega
  · rcases k.fz.new B l h with g | g | g
    · exact hr.fz.new B l g
    · exact .inr (inF B g)
    · exact .inr (.inr (Nat.le_trans hr.size g))
theorem ownHook_ok {c : Code} {f : St → T (X × St)} {ids : List Nat} (h : ∀ w0 F, HookOK P E w0 F noRO nt c f) : ∀ w0 F ro, HookOK P E w0 F ro nt c (ownHook ids f) := by
  intro w0 F ro ρ st a w r hs hrun
  unfold ownHook at hrun
  split at hrun <;> try (cases hrun; done)
  rename_i hin
  obtain ⟨q, h1, h2⟩ := T.run_bind_some hrun
  injection h2 with h2; subst h2
  have hs' : SR ⟨w, ρ, st.hp.nxt⟩ (InIds ρ ids) E.G noRO nt ρ ⟨st.tmps, st.dfr, ⟨keepB st.hp.m ids, st.hp.nxt, st.hp.lim⟩⟩ a w := ⟨hs.rel.keep ids, hs.tr, hs.dr, hs.nt⟩
  refine wp_mono (h _ _ ρ _ a w q hs' h1) fun e a' w' ⟨ρ', k1, k2, k3⟩ => ⟨ρ', k1, ⟨hs.rel.back hin k1 k2.rel, k2.tr, k2.dr, k2.nt⟩, k3⟩
end
end Go.Ev
