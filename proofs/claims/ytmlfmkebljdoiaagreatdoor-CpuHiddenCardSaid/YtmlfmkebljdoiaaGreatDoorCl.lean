/- Own text: loops: a canonical state at the head, a round by the evaluator, induction. -/
import Derived.Test.YtmlfmkebljdoiaaGreatDoorCt
namespace Go.Proofs.YtmlfmkebljdoiaaGreatDoor
open Go.Ev Go.Ev.Tr Go.Proofs
set_option maxRecDepth 1000000
/-! ### canonical states -/
inductive TS where
  | int (k : IntKind) (lo hi : Int)
  | bool
  | ptr (b : Nat)
  | row (b es n : Nat)
  | same
inductive BS where
  | cpu (N : Int)
  | fn (k : IntKind) (n : Nat) (lo hi : Int)
  | nc (ss : List CS)
  | same
structure LSpec where
  ts : List (Nat × TS)
  bs : List (Nat × BS)
  nxt : Nat
  lim : Nat
def okT (n : Nat) : TS → V → Bool
  | .int k lo hi, .int k' i => decide (k = k') && ile lo i.lo && ile i.hi hi
  | .bool, .bool _ => true
  | .bool, .sbool _ => true
  | .ptr b, .ptr b' o => Nat.beq b b' && isZero o && Nat.ble (b + 1) n
  | .row b es m, .slice b' es' o l clo chi => Nat.beq b b' && Nat.beq es es' && isZero o && ieq l.lo m && ieq l.hi m && ieq clo m && ieq chi m && Nat.ble (b + 1) n
  | .same, v => V.under n v
  | _, _ => false
def encT : TS → V → V
  | .int k lo hi, v => .int k ⟨nOf v, lo, hi⟩
  | .bool, v => .sbool (bOf v)
  | .ptr b, _ => .ptr b (I.lit 0)
  | .row b es m, _ => .slice b es (I.lit 0) (I.lit m) m m
  | .same, v => v
theorem isZero_lit {o : I} {n : Int} (h : isZero o = true) (hn : IR o n) : IR (I.lit 0) n := by
  simp only [isZero, Bool.and_eq_true, ieq_iff] at h
  have := hn.2
  have e : n = 0 := by omega
  rw [e]; exact IR.lit 0
theorem encT_sound {n : Nat} {s : TS} {v : V} (h : okT n s v = true) : V.under n (encT s v) = true ∧ ∀ (ρ : Ren) x, VR ρ v x → VR ρ (encT s v) x := by
  unfold okT at h
  split at h
  · simp only [Bool.and_eq_true, decide_eq_true_eq, ile_iff] at h
    obtain ⟨⟨rfl, h1⟩, h2⟩ := h
    refine ⟨rfl, fun ρ x => ?_⟩
    rintro ⟨m, rfl, hm⟩
    have := hm.2
    exact ⟨m, rfl, hm.1, by simp only; omega, by simp only; omega⟩
  · exact ⟨rfl, fun ρ x hx => hx⟩
  · exact ⟨rfl, fun ρ x hx => hx⟩
  · simp only [Bool.and_eq_true] at h
    obtain ⟨⟨h1, h2⟩, h3⟩ := h
    have h1 := Nat.eq_of_beq_eq_true h1
    subst h1
    refine ⟨h3, fun ρ x => ?_⟩
    rintro ⟨B, tot, m, e1, rfl, e3⟩
    exact ⟨B, tot, m, e1, rfl, isZero_lit h2 e3⟩
  · simp only [Bool.and_eq_true, ieq_iff] at h
    obtain ⟨⟨⟨⟨⟨⟨⟨h1, h2⟩, h3⟩, h4⟩, h5⟩, h6⟩, h7⟩, h8⟩ := h
    have h1 := Nat.eq_of_beq_eq_true h1
    have h2 := Nat.eq_of_beq_eq_true h2
    subst h1; subst h2; subst h6; subst h7
    refine ⟨h8, fun ρ x => ?_⟩
    rintro ⟨B, tot, m, len, cap, e1, rfl, e3, e4, e5⟩
    refine ⟨B, tot, m, len, cap, e1, rfl, isZero_lit h3 e3, ?_, e5⟩
    have := e4.2
    rename_i mm _ _
    have e : (len : Int) = (mm : Nat) := by omega
    rw [e]; exact IR.lit _
  · exact ⟨h, fun ρ x hx => hx⟩
  · cases h
def wsIn (lo hi : Int) : List (I × I) → Bool
  | [] => true
  | p :: ps => ile lo p.2.lo && ile p.2.hi hi && wsIn lo hi ps
def okB (n : Nat) : BS → Blk → Bool
  | .cpu N, .cells cs => match normC (cspec N) cs with
    | some _ => true
    | none => false
  | .fn k m lo hi, .fn k' m' _ lo' hi' => decide (k = k') && Nat.beq m m' && ile lo lo' && ile hi' hi
  | .fn k m lo hi, .mem k' m' ws => decide (k = k') && Nat.beq m m' && ile lo 0 && ile 0 hi && wsIn lo hi ws
  | .nc ss, .cells cs => match normC ss cs with
    | some _ => true
    | none => false
  | .same, b => b.under n
  | _, _ => false
def fnOf : Blk → Nat → Int
  | .fn _ _ f _ _ => f
  | .mem _ _ ws => fun i => memAt ws i
  | _ => fun _ => 0
def csOf : Blk → List V
  | .cells cs => cs
  | _ => []
def encB : BS → Blk → Blk
  | .cpu N, b => .cells (enc N (cpuOf (csOf b)))
  | .fn k m lo hi, b => .fn k m (fnOf b) lo hi
  | .nc ss, b => .cells ((normC ss (csOf b)).getD [])
  | .same, b => b
theorem norm1C_n {s : CS} {v u : V} (h : norm1C s v = some u) : nOf u = nOf v ∧ bOf u = bOf v := by
  unfold norm1C at h
  split at h
  · split at h <;> try contradiction
    injection h with h; subst h; exact ⟨rfl, rfl⟩
  · injection h with h; subst h; exact ⟨rfl, rfl⟩
  · injection h with h; subst h; exact ⟨rfl, rfl⟩
  · contradiction
theorem normC_n : ∀ {ss : List CS} {vs us : List V} (i : Nat), normC ss vs = some us → nAt us i = nAt vs i ∧ bAt us i = bAt vs i
  | [], [], us, i, h => by injection h with h; subst h; exact ⟨rfl, rfl⟩
  | [], _ :: _, _, _, h => by cases h
  | _ :: _, [], _, _, h => by cases h
  | s :: ss, v :: vs, us, i, h => by
    unfold normC at h
    split at h <;> try contradiction
    rename_i u hu
    split at h <;> try contradiction
    rename_i us' hus
    injection h with h; subst h
    cases i with
    | zero => exact norm1C_n hu
    | succ i =>
      have := normC_n i hus
      simpa [nAt, bAt, List.getD_cons_succ] using this
theorem normC_cpu {N : Int} {vs us : List V} (h : normC (cspec N) vs = some us) : us = enc N (cpuOf vs) := by
  rw [enc_of (normC_shape h)]
  congr 1
  have e := fun i => normC_n (ss := cspec N) i h
  simp only [cpuOf, rgOf, (e _).1, (e _).2]
theorem memAt_in {lo hi : Int} (h1 : lo ≤ 0) (h2 : 0 ≤ hi) : ∀ {ws : List (I × I)} (q : Int), wsIn lo hi ws = true → WOk ws → lo ≤ memAt ws q ∧ memAt ws q ≤ hi
  | [], q, _, _ => ⟨h1, h2⟩
  | p :: ps, q, hw, hk => by
    simp only [wsIn, Bool.and_eq_true, ile_iff] at hw
    unfold memAt
    obtain ⟨i, v⟩ := p
    have hp := hk _ (List.mem_cons_self)
    simp only
    split
    · have := hp.2.2
      simp only at *
      omega
    · exact memAt_in h1 h2 q hw.2 fun p hp => hk p (List.mem_cons_of_mem _ hp)
theorem shape_unders {n : Nat} : ∀ {ss : List CS} {us : List V}, Shape ss us → unders n us = true
  | [], us, h => by simp only [Shape] at h; subst h; rfl
  | .i _ _ :: ss, us, ⟨m, r, h, h2⟩ => by subst h; simp only [unders, V.under, Bool.true_and, shape_unders h2]
  | .b :: ss, us, ⟨m, r, h, h2⟩ => by subst h; simp only [unders, V.under, Bool.true_and, shape_unders h2]
theorem encB_sound {n : Nat} {s : BS} {b : Blk} (h : okB n s b = true) : (encB s b).under n = true ∧ ∀ (ρ : Ren) tot o, BR ρ tot b o → BR ρ tot (encB s b) o := by
  unfold okB at h
  split at h
  · split at h <;> try contradiction
    rename_i N cs _ us hus
    refine ⟨shape_unders (enc_shape _), fun ρ tot o => ?_⟩
    rintro ⟨l, t, fz, rfl, h2, h3⟩
    refine ⟨l, t, fz, rfl, ?_, h3⟩
    show VRs ρ (enc N (cpuOf cs)) l
    rw [← normC_cpu hus]; exact normC_VR hus h2
  · simp only [Bool.and_eq_true, decide_eq_true_eq, ile_iff] at h
    obtain ⟨⟨⟨rfl, h1⟩, h2⟩, h3⟩ := h
    have h1 := Nat.eq_of_beq_eq_true h1
    subst h1
    refine ⟨rfl, fun ρ tot o => ?_⟩
    rintro ⟨l, t, fz, rfl, e1, e2, e3, e4⟩
    exact ⟨l, t, fz, rfl, e1, e2, fun i hi => ⟨(e3 i hi).1, by have := (e3 i hi).2; simp only [fnOf]; omega, by have := (e3 i hi).2; simp only [fnOf]; omega⟩, e4⟩
  · simp only [Bool.and_eq_true, decide_eq_true_eq, ile_iff] at h
    obtain ⟨⟨⟨⟨rfl, h1⟩, h2⟩, h3⟩, h4⟩ := h
    have h1 := Nat.eq_of_beq_eq_true h1
    subst h1
    refine ⟨rfl, fun ρ tot o => ?_⟩
    rintro ⟨l, t, fz, rfl, e1, e2, e3, e4, e5⟩
    exact ⟨l, t, fz, rfl, e1, e2, fun i hi => ⟨e3 i hi, memAt_in h2 h3 _ h4 e4⟩, e5⟩
  · split at h <;> try contradiction
    rename_i ss cs _ us hus
    refine ⟨?_, fun ρ tot o => ?_⟩
    · show unders n ((normC ss cs).getD []) = true
      rw [hus]; exact shape_unders (normC_shape hus)
    · rintro ⟨l, t, fz, rfl, h2, h3⟩
      refine ⟨l, t, fz, rfl, ?_, h3⟩
      show VRs ρ ((normC ss cs).getD []) l
      rw [hus]; exact normC_VR hus h2
  · exact ⟨h, fun ρ tot o ho => ho⟩
  · cases h
def okTs (n : Nat) : List (Nat × TS) → Tr V → Bool
  | [], _ => true
  | (t, s) :: r, m => okT n s (tmpV m t) && okTs n r m
def encTs : List (Nat × TS) → Tr V → Tr V
  | [], _ => .lf
  | (t, s) :: r, m => (encTs r m).set t (some (encT s (tmpV m t)))
def blkAt (m : Tr Blk) (id : Nat) : Blk := match m.get id with
  | some b => b
  | none => .strs []
def okBs (n : Nat) : List (Nat × BS) → Tr Blk → Bool
  | [], _ => true
  | (t, s) :: r, m => (match m.get t with
    | some b => okB n s b
    | none => false) && okBs n r m
def encBs : List (Nat × BS) → Tr Blk → Tr Blk
  | [], _ => .lf
  | (t, s) :: r, m => (encBs r m).set t (some (encB s (blkAt m t)))
def noDfr : List ADef → Bool
  | [] => true
  | _ => false
def okSt (sp : LSpec) (st : St) : Bool := noDfr st.dfr && okTs sp.nxt sp.ts st.tmps && okBs sp.nxt sp.bs st.hp.m
def encSt (sp : LSpec) (st : St) : St := ⟨encTs sp.ts st.tmps, [], ⟨encBs sp.bs st.hp.m, sp.nxt, sp.lim⟩⟩
theorem encTs_get {n : Nat} {m : Tr V} {t : Nat} {u : V} : ∀ {l : List (Nat × TS)}, okTs n l m = true → (encTs l m).get t = some u → V.under n u = true ∧ ∀ (ρ : Ren) x, VR ρ (tmpV m t) x → VR ρ u x
  | [], _, h => by cases h
  | (t', s) :: r, hk, h => by
    simp only [okTs, Bool.and_eq_true] at hk
    simp only [encTs, Tr.get_set] at h
    split at h
    · rename_i e; subst e
      injection h with h; subst h
      exact encT_sound hk.1
    · exact encTs_get hk.2 h
theorem encBs_get {n : Nat} {m : Tr Blk} {t : Nat} {u : Blk} : ∀ {l : List (Nat × BS)}, okBs n l m = true → (encBs l m).get t = some u → u.under n = true ∧ ∃ c, m.get t = some c ∧ ∀ (ρ : Ren) tot o, BR ρ tot c o → BR ρ tot u o
  | [], _, h => by cases h
  | (t', s) :: r, hk, h => by
    simp only [okBs, Bool.and_eq_true] at hk
    simp only [encBs, Tr.get_set] at h
    split at h
    · rename_i e; subst e
      injection h with h; subst h
      obtain ⟨k1, k2⟩ := hk
      split at k1 <;> try contradiction
      rename_i b hb
      have e : blkAt m t = b := by unfold blkAt; rw [hb]
      rw [e]
      exact ⟨(encB_sound k1).1, b, hb, (encB_sound k1).2⟩
    · exact encBs_get hk.2 h
def inKeys (t : Nat) : List (Nat × BS) → Prop
  | [] => False
  | (t', _) :: r => t = t' ∨ inKeys t r
theorem encBs_keys {m : Tr Blk} {t : Nat} : ∀ {l : List (Nat × BS)}, (∃ u, (encBs l m).get t = some u) ↔ inKeys t l
  | [] => by simp [encBs, Tr.get, inKeys]
  | (t', s) :: r => by
    simp only [encBs, Tr.get_set, inKeys]
    by_cases e : t = t'
    · subst e; simp
    · simp only [e, false_or]; exact encBs_keys
/-- A state at a loop's head. -/
structure Canon (sp : LSpec) (st : St) : Prop where
  dfr : st.dfr = []
  nxt : st.hp.nxt = sp.nxt
  lim : st.hp.lim = sp.lim
  keys : ∀ t, (∃ u, st.hp.m.get t = some u) ↔ inKeys t sp.bs
theorem canon_enc (sp : LSpec) (st : St) : Canon sp (encSt sp st) := ⟨rfl, rfl, rfl, fun _ => encBs_keys⟩
section
variable {P : Program} {E : Env} {ρ ρ' : Ren} {w0 : Base} {w w' : World} {F : Nat → Prop} {ro : RO} {st st' : St} {a a' : Act} {nt : Nat} {sp : LSpec}
/-- Less is known. -/
theorem _root_.Go.Ev.Rel.sub {G : Nat} {hp hp2 : Hp} (h : Rel w0 F G ro ρ hp w) (hn : hp2.nxt = hp.nxt) (hl : hp2.lim = hp.lim) (hb : ∀ id b, hp2.m.get id = some b → ∃ c, hp.m.get id = some c ∧ ∀ (ρ : Ren) tot o, BR ρ tot c o → BR ρ tot b o) : Rel w0 F G ro ρ hp2 w := by
  have known : ∀ id b, hp2.at ro id = some b → ∃ c, hp.at ro id = some c := fun id b hk => by
    rcases at_split hk with h1 | ⟨_, h1⟩
    · obtain ⟨c, h2, _⟩ := hb id b h1
      exact ⟨c, at_get h2⟩
    · exact ⟨b, h.at_ro h1⟩
  refine ⟨fun id b hk => ?_, fun i j b c B t t' hi hj h1 h2 => ?_, fun id b hk => ?_, fun id h1 h2 => h.fresh id (by omega) (by omega), h.frame, h.size, h.tape, h.os, h.output, h.glob, fun id x hx => ?_, by rw [hn]; exact h.le0⟩
  · rcases at_split hk with h1 | ⟨h1, h2⟩
    · obtain ⟨c, h3, h4⟩ := hb id b h1
      obtain ⟨B, t, o, e1, e2, e3, e4⟩ := h.blk id c (at_get h3)
      exact ⟨B, t, o, e1, e2, h4 _ _ _ e3, .inr (e4.resolve_left (by rw [h3]; simp))⟩
    · obtain ⟨B, t, o, e1, e2, e3, e4⟩ := h.blk id b (h.at_ro h2)
      exact ⟨B, t, o, e1, e2, e3, .inl h1⟩
  · obtain ⟨c1, hc1⟩ := known i b hi
    obtain ⟨c2, hc2⟩ := known j c hj
    have ne : ∀ k, hp.m.get k = none → hp2.m.get k = none := fun k hk => by
      cases hg : hp2.m.get k with
      | none => rfl
      | some b' => obtain ⟨c, h3, _⟩ := hb k b' hg; rw [hk] at h3; cases h3
    exact (h.inj _ _ _ _ _ _ _ hc1 hc2 h1 h2).imp (fun e => e) fun q => ⟨ne _ q.1, ne _ q.2⟩
  · obtain ⟨c, h1, _⟩ := hb id b hk
    exact h.sep _ _ h1
  · rw [hn]; exact h.ren id x hx
theorem _root_.Go.Ev.SR.enter (hs : SR w0 F E.G ro nt ρ st a w) (hk : okSt sp st = true) (hn : st.hp.nxt = sp.nxt) (hl : st.hp.lim = sp.lim) : SR w0 F E.G ro nt ρ (encSt sp st) a w := by
  simp only [okSt, Bool.and_eq_true] at hk
  obtain ⟨⟨h1, h2⟩, h3⟩ := hk
  refine ⟨hs.rel.sub hn.symm hl.symm fun id b hb => (encBs_get h3 hb).2, fun t v hv => (encTs_get h2 hv).2 ρ _ (tmpV_sound hs.tr t), ?_, hs.nt⟩
  have := hs.dr
  cases hd : st.dfr with
  | nil => rw [hd] at this; exact this
  | cons x y => rw [hd] at h1; cases h1
/-- A round, from a base of its own. -/
theorem _root_.Go.Ev.SR.base (hs : SR w0 F E.G ro nt ρ st a w) : SR ⟨w, ρ, st.hp.nxt⟩ (OwnB ρ st.hp) E.G ro nt ρ st a w :=
  ⟨hs.rel.rebase (fun _ _ h => h) (fun id b h => hs.rel.sep id b h) (fun id i1 i2 => hs.rel.fresh id i1 i2) (fun _ b h => ⟨b, h⟩), hs.tr, hs.dr, hs.nt⟩
/-- And back to the whole. -/
theorem _root_.Go.Ev.SR.back (hs : SR w0 F E.G ro nt ρ st a w) (hc : Canon sp st) (h' : SR ⟨w, ρ, st.hp.nxt⟩ (OwnB ρ st.hp) E.G ro nt ρ' st' a' w') (hle : ρ.le ρ') (hk : okSt sp st' = true) : SR w0 F E.G ro nt ρ (encSt sp st') a' w' := by
  simp only [okSt, Bool.and_eq_true] at hk
  obtain ⟨⟨h1, h2⟩, h3⟩ := hk
  have hun : ∀ id x, ρ' id = some x → id < sp.nxt → ρ id = some x := fun id x hx hlt => by
    rcases h'.rel.ren id x hx with q | q
    · exact q
    · have : st.hp.nxt ≤ id := q.1
      rw [hc.nxt] at this; omega
  have old : ∀ id b, (encBs sp.bs st'.hp.m).get id = some b → ∃ c0, st.hp.m.get id = some c0 := fun id b hb => (hc.keys id).2 (encBs_keys.1 ⟨b, hb⟩)
  have hr := hs.rel
  have ownB : ∀ B, OwnB ρ st.hp B → F B ∨ w0.heap.size ≤ B := fun B ⟨id, b, t, g1, g2⟩ => by
    obtain ⟨B1, t1, o1, e1, _, _, e4⟩ := hr.blk id b (at_get g1)
    rw [g2] at e1
    obtain ⟨rfl, rfl⟩ := Prod.mk.inj (Option.some.inj e1)
    exact e4.resolve_left (by rw [g1]; simp)
  have known : ∀ id b, Hp.at ro ⟨encBs sp.bs st'.hp.m, sp.nxt, sp.lim⟩ id = some b → ∃ c, st.hp.at ro id = some c := fun id b hkk => by
    rcases at_split hkk with k1 | ⟨_, k1⟩
    · obtain ⟨c, h4⟩ := old id b k1
      exact ⟨c, at_get h4⟩
    · exact ⟨b, hr.at_ro k1⟩
  refine ⟨?_, fun t v hv => ?_, ?_, h'.nt⟩
  · show Rel w0 F E.G ro ρ ⟨encBs sp.bs st'.hp.m, sp.nxt, sp.lim⟩ w'
    refine ⟨fun id b hkk => ?_, fun i j b c B t t' hi hj e1 e2 => ?_, fun id b hkk => ?_, fun id i1 i2 => ?_, fun B hB hF => ?_, Nat.le_trans hr.size h'.rel.size, h'.rel.tape.trans hr.tape, h'.rel.os.trans hr.os, h'.rel.output.trans hr.output, hr.glob, fun id x hx => ?_, ?_⟩
    · rcases at_split hkk with k1 | ⟨k1, k2⟩
      · obtain ⟨u1, c, u2, u3⟩ := encBs_get h3 k1
        obtain ⟨c0, hc0⟩ := old id b k1
        obtain ⟨B, t, o, e1, e2, e3, e4⟩ := h'.rel.blk id c (at_get u2)
        obtain ⟨B0, t0, o0, f1, f2, f3, f4⟩ := hr.blk id c0 (at_get hc0)
        have := hle _ _ f1
        rw [e1] at this
        obtain ⟨rfl, rfl⟩ := Prod.mk.inj (Option.some.inj this)
        exact ⟨B, t, o, f1, e2, BR_under hun _ _ u1 (u3 _ _ _ e3), .inr (f4.resolve_left (by rw [hc0]; simp))⟩
      · obtain ⟨B, t, o, e1, e2, e3, e4⟩ := hr.blk id b (hr.at_ro k2)
        have hn : st.hp.m.get id = none := by
          cases hg : st.hp.m.get id with
          | none => rfl
          | some c => rw [hr.sep id c hg] at k2; cases k2
        obtain ⟨_, _, k5⟩ := kept hr (fun _ _ h => h) (fun _ b h => ⟨b, h⟩) h'.rel (hr.at_ro k2) hn e1
        exact ⟨B, t, o, e1, by rw [k5]; exact e2, e3, .inl k1⟩
    · obtain ⟨c1, hc1⟩ := known i b hi
      obtain ⟨c2, hc2⟩ := known j c hj
      have ne : ∀ k, st.hp.m.get k = none → (encBs sp.bs st'.hp.m).get k = none := fun k hk => by
        cases hg : (encBs sp.bs st'.hp.m).get k with
        | none => rfl
        | some b' => obtain ⟨c0, hc0⟩ := old k b' hg; rw [hk] at hc0; cases hc0
      exact (hr.inj _ _ _ _ _ _ _ hc1 hc2 e1 e2).imp (fun e => e) fun q => ⟨ne _ q.1, ne _ q.2⟩
    · obtain ⟨c0, hc0⟩ := old id b hkk
      exact hr.sep _ _ hc0
    · exact hr.fresh id (by rw [hc.nxt]; exact i1) (by rw [hc.lim]; exact i2)
    · rw [h'.rel.frame B (Nat.lt_of_lt_of_le hB hr.size) ?_]
      · exact hr.frame B hB hF
      · intro ho
        rcases ownB B ho with g | g
        · exact hF g
        · omega
    · rcases hr.ren id x hx with q | q
      · exact .inl q
      · exact .inr ⟨q.1, by rw [← hc.nxt]; exact q.2⟩
    · show w0.nxt ≤ sp.nxt
      rw [← hc.nxt]; exact hr.le0
  · obtain ⟨u1, u2⟩ := encTs_get h2 hv
    exact under_mono hun _ _ u1 (u2 _ _ (tmpV_sound h'.tr t))
  · have := h'.dr
    cases hd : st'.dfr with
    | nil => rw [hd] at this; exact this
    | cons x y => rw [hd] at h1; cases h1
/-- A round, as it is looked at. -/
def viewL (sp : LSpec) (r : X × St) : T (X × St) := match okSt sp r.2 with
  | true => .ret (r.1, encSt sp r.2)
  | false => .fail
theorem viewL_sound {r : X × St} {q : X × St} (h : (viewL sp r).run = some q) : okSt sp r.2 = true ∧ q = (r.1, encSt sp r.2) := by
  unfold viewL at h
  split at h
  · rename_i hk; injection h with h; exact ⟨hk, h.symm⟩
  · cases h
noncomputable def roundT (E : Env) (ro : RO) (call : CallF) (nt : Nat) (sp : LSpec) (b : C2) (st : St) : Option (X × St) := ((evC2 E ro call nt 10000 b st).bind (viewL sp)).run
/-- One round. -/
theorem round_ok (hE : EnvOK P E) {call : CallF} (hc : CallOK P E.G call) {b : C2} (hok : ∀ w0 F, b.ok P E w0 F ro nt) (hs : SR w0 F E.G ro nt ρ st a w) (hcn : Canon sp st) {x : X} {st2 : St} (h : roundT E ro call nt sp b st = some (x, st2)) (hx : ∀ v, x ≠ .pan v) :
    b.erase.wp P (fun e a' w' => XR ρ x e ∧ SR w0 F E.G ro nt ρ st2 a' w' ∧ Canon sp st2) a w := by
  unfold roundT at h
  obtain ⟨r, h1, h2⟩ := T.run_bind_some h
  obtain ⟨hk, hq⟩ := viewL_sound h2
  simp only [Prod.mk.injEq] at hq
  obtain ⟨rfl, rfl⟩ := hq
  refine evC2_sound hE hc 10000 b ρ st a w r _ (hok _ _) hs.base h1 fun e a' w' ⟨ρ', k1, k2, k3⟩ => ?_
  refine ⟨?_, hs.back hcn k2 k1 hk, canon_enc sp _⟩
  cases hr : r.1 with
  | normal => rw [hr] at k3; exact k3
  | exit id => rw [hr] at k3; exact k3
  | ret => rw [hr] at k3; exact k3
  | pan v => exact absurd hr (hx v)
/-- A loop: each round leads on, or out. -/
theorem loop_ok (hE : EnvOK P E) {call : CallF} (hc : CallOK P E.G call) {b : C2} {id : Nat} {σ : Type} {cn : σ → St} (hok : ∀ w0 F, b.ok P E w0 F ro nt) (hcn : ∀ s, Canon sp (cn s)) {R : σ → Prop} {μ : σ → Nat} {D : X → St → Prop}
    (step : ∀ s, R s → (∃ s', roundT E ro call nt sp b (cn s) = some (.normal, cn s') ∧ R s' ∧ μ s' < μ s) ∨ (∃ st2, roundT E ro call nt sp b (cn s) = some (.exit id, st2) ∧ D .normal st2) ∨ (∃ st2, roundT E ro call nt sp b (cn s) = some (.ret, st2) ∧ D .ret st2))
    {s : σ} (hR : R s) (hs : SR w0 F E.G ro nt ρ (cn s) a w) :
    (Code.block id (.loop b.erase)).wp P (fun e a' w' => ∃ x st2, D x st2 ∧ XR ρ x e ∧ SR w0 F E.G ro nt ρ st2 a' w') a w := by
  refine wp_block ?_
  have key : ∀ (n : Nat) (s : σ) (a : Act) (w : World), R s → μ s < n → SR w0 F E.G ro nt ρ (cn s) a w →
      Code.rounds P b.erase (Exit.inBlock id (fun e a' w' => ∃ x st2, D x st2 ∧ XR ρ x e ∧ SR w0 F E.G ro nt ρ st2 a' w')) n a w := by
    intro n
    induction n with
    | zero => intro s a w _ h _; omega
    | succ n ih =>
      intro s a w hR hn hs
      rcases step s hR with ⟨s', h1, h2, h3⟩ | ⟨st2, h1, h2⟩ | ⟨st2, h1, h2⟩
      · refine wp_mono (round_ok hE hc hok hs (hcn s) h1 (fun v => by simp)) fun e a' w' ⟨k1, k2, k3⟩ => ?_
        simp only [XR] at k1; subst k1
        exact ih s' a' w' h2 (by omega) k2
      · refine wp_mono (round_ok hE hc hok hs (hcn s) h1 (fun v => by simp)) fun e a' w' ⟨k1, k2, k3⟩ => ?_
        simp only [XR] at k1; subst k1
        have : Exit.inBlock id (fun e a' w' => ∃ x st2, D x st2 ∧ XR ρ x e ∧ SR w0 F E.G ro nt ρ st2 a' w') (.exit id) a' w' := by
          simp only [Exit.inBlock, if_true]
          exact ⟨.normal, st2, h2, rfl, k2⟩
        exact this
      · refine wp_mono (round_ok hE hc hok hs (hcn s) h1 (fun v => by simp)) fun e a' w' ⟨k1, k2, k3⟩ => ?_
        simp only [XR] at k1; subst k1
        exact ⟨.ret, st2, h2, rfl, k2⟩
  exact wp_loop_rounds _ (key (μ s + 1) s a w hR (by omega) hs)
/-- The loop, told: where the model comes to an end, it ends so. -/
noncomputable def loopF {σ : Type} (sp : LSpec) (par : St → σ) (cn : σ → St) (fin : σ → Option σ) (st : St) : T (X × St) := match okSt sp st && Nat.beq st.hp.nxt sp.nxt && Nat.beq st.hp.lim sp.lim with
  | true => .br (fin (par st)).isSome (.ret (.normal, cn ((fin (par st)).getD (par st)))) .fail
  | false => .fail
theorem loopF_ok (hE : EnvOK P E) {call : CallF} (hc : CallOK P E.G call) {b : C2} {id : Nat} {σ : Type} {cn : σ → St} {par : St → σ} {fin : σ → Option σ} (hok : ∀ w0 F, b.ok P E w0 F ro nt) (hcn : ∀ s, Canon sp (cn s)) (hpar : ∀ st, okSt sp st = true → encSt sp st = cn (par st)) {μ : σ → Nat}
    (step : ∀ s r, fin s = some r → (∃ s', roundT E ro call nt sp b (cn s) = some (.normal, cn s') ∧ fin s' = some r ∧ μ s' < μ s) ∨ roundT E ro call nt sp b (cn s) = some (.exit id, cn r)) :
    ∀ w0 F, HookOK P E w0 F ro nt (.block id (.loop b.erase)) (loopF sp par cn fin) := by
  intro w0 F ρ st a w r hs h
  unfold loopF at h
  split at h <;> try (cases h; done)
  rename_i hk
  simp only [Bool.and_eq_true] at hk
  obtain ⟨⟨hk, hn⟩, hl⟩ := hk
  have hn := Nat.eq_of_beq_eq_true hn
  have hl := Nat.eq_of_beq_eq_true hl
  simp only [T.run] at h
  cases hf : fin (par st) with
  | none => rw [hf] at h; cases h
  | some q =>
    rw [hf] at h
    simp only [Option.isSome_some, cond_true, Option.getD_some, Option.some.injEq] at h
    subst h
    have hs1 := hs.enter hk hn hl
    rw [hpar st hk] at hs1
    refine wp_mono (loop_ok hE hc (cn := cn) (R := fun s => fin s = some q) (μ := μ) (D := fun x st2 => x = .normal ∧ st2 = cn q) hok hcn (fun s hR => ?_) hf hs1) ?_
    · rcases step s q hR with ⟨s', h1, h2, h3⟩ | h1
      · exact .inl ⟨s', h1, h2, h3⟩
      · exact .inr (.inl ⟨_, h1, rfl, rfl⟩)
    · rintro e a' w' ⟨x, st2, ⟨rfl, rfl⟩, k1, k2⟩
      exact ⟨ρ, Ren.le.refl _, k2, k1⟩
end
end Go.Proofs.YtmlfmkebljdoiaaGreatDoor
