/- Own text: told loops whose state holds one slice that moves: after an append its block may be another one. -/
import Derived.Test.YtlmacdfbdhpljaaGreatDoorSlr
namespace Go.Ev
open Go.Ev.Tr
theorem Ren.ext_ne {ρ : Ren} {i j : Nat} {x : Nat × Nat} (h : j ≠ i) : (ρ.ext i x) j = ρ j := by simp [Ren.ext, h]
section
variable {w0 : Base} {F : Nat → Prop} {G : Nat} {ρ : Ren} {hp : Hp} {w : World}
/-- Less is known, and one block has another number. -/
theorem Rel.cutM {ro : RO} (hr : Rel w0 F G ro ρ hp w) {m : Tr Blk} {n0 X B0 t0 : Nat} {blk c0 : Blk} (hro : RoF n0 ro) (hG : G ≤ n0) (h0 : w0.nxt ≤ n0) (hn : hp.nxt ≤ hp.lim)
    (hm : ∀ id b, m.get id = some b → id < n0 ∧ id ≠ X ∧ ∃ c, hp.m.get id = some c ∧ ∀ B t o, ρ id = some (B, t) → w.heap[B]? = some o → BR ρ t c o → BR ((ρ.cut n0 hp.lim).ext n0 (B0, t0)) t b o)
    (hX : hp.m.get X = some c0) (hB : ρ X = some (B0, t0)) (hb : ∀ o, w.heap[B0]? = some o → BR ρ t0 c0 o → BR ((ρ.cut n0 hp.lim).ext n0 (B0, t0)) t0 blk o) :
    Rel w0 F G ro ((ρ.cut n0 hp.lim).ext n0 (B0, t0)) ⟨m.set n0 (some blk), n0 + 1, hp.lim⟩ w := by
  have low' : ∀ id, id < n0 → ((ρ.cut n0 hp.lim).ext n0 (B0, t0)) id = ρ id := fun id h => by
    rw [Ren.ext_ne (by omega), cut_low h]
  have known : ∀ id b, Hp.at ro ⟨m.set n0 (some blk), n0 + 1, hp.lim⟩ id = some b → ∃ j c, hp.at ro j = some c ∧ ((ρ.cut n0 hp.lim).ext n0 (B0, t0)) id = ρ j ∧ ((id = n0 ∧ j = X) ∨ (id < n0 ∧ j = id ∧ id ≠ X)) ∧ (hp.m.get j = none → (m.set n0 (some blk)).get id = none) ∧
      (∀ B t o, ρ j = some (B, t) → w.heap[B]? = some o → BR ρ t c o → BR ((ρ.cut n0 hp.lim).ext n0 (B0, t0)) t b o) := fun id b h => by
    rcases at_split h with h1 | ⟨h1, h2⟩
    · have h1 : (m.set n0 (some blk)).get id = some b := h1
      rw [Tr.get_set] at h1
      by_cases e : id = n0
      · rw [if_pos e] at h1
        injection h1 with h1; subst h1; subst e
        refine ⟨X, c0, at_get hX, by rw [Ren.ext_same, hB], .inl ⟨rfl, rfl⟩, fun q => (by rw [hX] at q; cases q), fun B t o k1 k2 k3 => ?_⟩
        rw [hB] at k1
        obtain ⟨rfl, rfl⟩ := Prod.mk.inj (Option.some.inj k1)
        exact hb o k2 k3
      · rw [if_neg e] at h1
        obtain ⟨q1, q2, c, q3, q4⟩ := hm id b h1
        exact ⟨id, c, at_get q3, low' id q1, .inr ⟨q1, rfl, q2⟩, fun q => (by rw [q3] at q; cases q), q4⟩
    · have h1 : (m.set n0 (some blk)).get id = none := h1
      have hl := (hro id b h2).1
      have hne : id ≠ X := fun e => by subst e; rw [hr.sep id c0 hX] at h2; cases h2
      refine ⟨id, b, hr.at_ro h2, low' id hl, .inr ⟨hl, rfl, hne⟩, fun _ => h1, fun B t o k1 k2 k3 => ?_⟩
      exact BR_flat (ρ := ρ) (ρ' := (ρ.cut n0 hp.lim).ext n0 (B0, t0)) (fun _ _ h => h) _ _ (hro id b h2).2 k3
  refine ⟨fun id b h => ?_, fun i j b c B t t' hi hj e1 e2 => ?_, fun id b h => ?_, fun id h1 h2 => ?_, hr.frame, hr.size, hr.tape, hr.os, hr.output, fun g hg => ?_, fun id x hx => ?_, Nat.le_succ_of_le h0, hr.fz.keep, fun id b B t h1 h2 => ?_, hr.fz.new⟩
  · obtain ⟨j, c, g1, g2, g3, g4, g5⟩ := known id b h
    obtain ⟨B, t, o, e1, e2, e3, e4⟩ := hr.blk j c g1
    exact ⟨B, t, o, by rw [g2]; exact e1, e2, g5 _ _ _ e1 e2 e3, e4.imp g4 fun q => q⟩
  · obtain ⟨i', c1, g1, g2, g3, g4, _⟩ := known i b hi
    obtain ⟨j', c2, k1, k2, k3, k4, _⟩ := known j c hj
    rw [g2] at e1; rw [k2] at e2
    rcases hr.inj _ _ _ _ _ _ _ g1 k1 e1 e2 with q | ⟨q1, q2⟩
    · left
      rcases g3 with ⟨a1, a2⟩ | ⟨a1, a2, a3⟩ <;> rcases k3 with ⟨b1, b2⟩ | ⟨b1, b2, b3⟩
      · rw [a1, b1]
      · exact absurd (by rw [← b2, ← q, a2]) b3
      · exact absurd (by rw [← a2, q, b2]) a3
      · rw [← a2, ← b2]; exact q
    · exact .inr ⟨g4 q1, k4 q2⟩
  · have h : (m.set n0 (some blk)).get id = some b := h
    rw [Tr.get_set] at h
    split at h
    · rename_i e; subst e
      cases hq : ro id with
      | none => rfl
      | some x => have := (hro id x hq).1; omega
    · obtain ⟨_, _, c, q3, _⟩ := hm id b h
      exact hr.sep id c q3
  · have h1 : n0 + 1 ≤ id := h1
    rw [Ren.ext_ne (by omega)]
    show (ρ.cut n0 hp.lim) id = none
    simp only [Ren.cut]
    rw [if_pos ⟨by omega, h2⟩]
  · obtain ⟨t, ht⟩ := hr.glob g hg
    exact ⟨t, by rw [low' g (by omega)]; exact ht⟩
  · by_cases e : id = n0
    · subst e
      exact .inr ⟨h0, Nat.lt_succ_self _⟩
    · rw [Ren.ext_ne e] at hx
      obtain ⟨h1, h2⟩ := cut_some hx
      rcases hr.ren id x h1 with q | q
      · exact .inl q
      · refine .inr ⟨q.1, ?_⟩
        show id < n0 + 1
        have := q.2
        omega
  · have h1' : (m.set n0 (some blk)).get id = some b := h1
    obtain ⟨j, c, g1, g2, g3, g4, _⟩ := known id b (at_get h1')
    rw [g2] at h2
    cases hq : hp.m.get j with
    | none => rw [g4 hq] at h1'; cases h1'
    | some c' => exact hr.fz.sep j c' B t hq h2
end
/-! ### the slice that moves -/
inductive MK where
  /-- the last one alone is told, or not even that -/
  | last (keep : Bool)
  | nums (k : IntKind) (lo hi : Int)
inductive MD where
  | nil
  | last (n : Nat) (v : V)
  | nums (xs : List Int)
structure LSpecM where
  sp : LSpecR
  /-- the block and the cell where it is -/
  mb : Nat
  mc : Nat
  kd : MK
  lo : Int
  hi : Int
abbrev SDM := SDR × MD
def lenMD : MD → Int
  | .nil => 0
  | .last n _ => n
  | .nums xs => xs.length
def encMB : MK → MD → Blk
  | .last true, .last n v => .lastv n v
  | .last false, .last n _ => .lastv n .any
  | .nums k lo hi, .nums xs => .ints k xs lo hi
  | _, _ => .cells []
def decMB (n0 : Nat) : MK → Blk → Option MD
  | .last true, .lastv n v => match V.low n0 v with
    | true => some (.last n v)
    | false => none
  | .last true, .vec [v] => match V.low n0 v with
    | true => some (.last 1 v)
    | false => none
  | .last false, .lastv n _ => some (.last n .nilp)
  | .last false, .vec [_] => some (.last 1 .nilp)
  | .nums k lo hi, .ints k' xs lo' hi' => match decide (k = k') && ile lo lo' && ile hi' hi with
    | true => some (.nums xs)
    | false => none
  | _, _ => none
theorem decMB_sound {n0 : Nat} {K : MK} {c : Blk} {md : MD} (h : decMB n0 K c = some md) {ρ ρ' : Ren} (lowm : ∀ id x, ρ id = some x → id < n0 → ρ' id = some x) (hH : ∀ B l, ρ.H B = some l → ρ'.H B = some l) {t : Nat} {o : Obj} (hb : BR ρ t c o) : BR ρ' t (encMB K md) o := by
  unfold decMB at h
  split at h <;> try contradiction
  · rename_i n v
    split at h <;> try contradiction
    rename_i hl
    injection h with h; subst h
    obtain ⟨l, ty, fz, h1, h2, h3, h4, ⟨x, h5, h6⟩, h7⟩ := hb
    exact ⟨l, ty, fz, h1, h2, h3, h4, ⟨x, h5, low_mono lowm hH _ _ hl h6⟩, h7⟩
  · rename_i v
    split at h <;> try contradiction
    rename_i hl
    injection h with h; subst h
    obtain ⟨l, l', ty, fz, h1, ⟨x, xs, rfl, h2, h3⟩, h4, h5⟩ := hb
    have h3 : xs = [] := h3
    subst h3
    refine ⟨_, ty, fz, h1, h4, Nat.le_refl _, ?_, ⟨x, rfl, low_mono lowm hH _ _ hl h2⟩, h5⟩
    rw [← h4]; simp
  · rename_i n v
    injection h with h; subst h
    obtain ⟨l, ty, fz, h1, h2, h3, h4, ⟨x, h5, h6⟩, h7⟩ := hb
    exact ⟨l, ty, fz, h1, h2, h3, h4, ⟨x, h5, trivial⟩, h7⟩
  · rename_i v
    injection h with h; subst h
    obtain ⟨l, l', ty, fz, h1, ⟨x, xs, rfl, h2, h3⟩, h4, h5⟩ := hb
    have h3 : xs = [] := h3
    subst h3
    refine ⟨_, ty, fz, h1, h4, Nat.le_refl _, ?_, ⟨x, rfl, trivial⟩, h5⟩
    rw [← h4]; simp
  · rename_i k lo hi k' xs lo' hi'
    split at h <;> try contradiction
    rename_i hk
    simp only [Bool.and_eq_true, decide_eq_true_eq, ile_iff] at hk
    obtain ⟨⟨rfl, k1⟩, k2⟩ := hk
    injection h with h; subst h
    obtain ⟨l, ty, fz, h1, h2, h3, h4, h5⟩ := hb
    refine ⟨l, ty, fz, h1, h2, h3, fun i hi => ?_, h5⟩
    obtain ⟨q1, q2, q3⟩ := h4 i hi
    exact ⟨q1, by omega, by omega⟩
def setC (m : Tr Blk) (b c : Nat) (v : V) : Tr Blk := match m.get b with
  | some (.cells cs) => m.set b (some (.cells (cs.set c v)))
  | _ => m
def notB (X : Nat) : List (Nat × List KSR) → Bool
  | [] => true
  | (b, _) :: r => !Nat.beq X b && notB X r
def mvV (sm : LSpecM) (md : MD) : V := .slice sm.sp.nxt 1 (I.lit 0) ⟨lenMD md, sm.lo, sm.hi⟩ 0 big63
def encStM (sm : LSpecM) (d : SDM) : St := match d.2 with
  | .nil => ⟨encTsR sm.sp.ts d.1.1, [], ⟨setC (encBsR sm.sp.bs d.1.2) sm.mb sm.mc .nils, sm.sp.nxt + 1, sm.sp.lim⟩⟩
  | md => ⟨encTsR sm.sp.ts d.1.1, [], ⟨(setC (encBsR sm.sp.bs d.1.2) sm.mb sm.mc (mvV sm md)).set sm.sp.nxt (some (encMB sm.kd md)), sm.sp.nxt + 1, sm.sp.lim⟩⟩
def okStM (sm : LSpecM) (d : SDM) : Bool := okStR sm.sp d.1 && (decide (sm.lo ≤ lenMD d.2) && decide (lenMD d.2 ≤ sm.hi))
def decStM (sm : LSpecM) (st : St) : Option (SDM × Bool) := match Nat.ble (sm.sp.nxt + 1) sm.sp.lim with
  | true => match st.hp.m.get sm.mb with
    | some (.cells cs) => match cs[sm.mc]? with
      | some .nils => match decStR sm.sp st with
        | some d => some ((d, .nil), true)
        | none => none
      | some (.slice X es o len _ chi) => match Nat.beq es 1 && isZero o && ile chi big63 && !memN X (idsStR sm.sp st) && notB X sm.sp.bs with
        | true => match st.hp.m.get X with
          | some c => match decMB sm.sp.nxt sm.kd c with
            | some md => match decStR sm.sp st with
              | some d => some ((d, md), decide (len.n = lenMD md))
              | none => none
            | none => none
          | none => none
        | false => none
      | _ => none
    | _ => none
  | false => none
structure leN (n0 lim : Nat) (ρ ρ' : Ren) : Prop where
  le : ∀ id x, ρ id = some x → ¬ (n0 ≤ id ∧ id < lim) → ρ' id = some x
  leH : ∀ B l, ρ.H B = some l → ρ'.H B = some l
theorem leN.trans {n0 lim : Nat} {a b c : Ren} (h : leN n0 lim a b) (k : leN n0 lim b c) : leN n0 lim a c := ⟨fun id x h1 h2 => k.le id x (h.le id x h1 h2) h2, fun B l h1 => k.leH B l (h.leH B l h1)⟩
theorem leN.refl {n0 lim : Nat} (a : Ren) : leN n0 lim a a := ⟨fun _ _ h _ => h, fun _ _ h => h⟩
theorem leN.of {n0 lim : Nat} {a b : Ren} (h : a.le b) : leN n0 lim a b := ⟨fun id x h1 _ => h id x h1, fun B l h1 => h.leH B l h1⟩
section
variable {P : Program} {E : Env} {w0 : Base} {F : Nat → Prop} {G : Nat} {ρ : Ren} {hp : Hp} {w : World} {ro : RO} {st : St} {a : Act} {nt : Nat}
theorem notB_sound {X : Nat} {n0 : Nat} : ∀ {l : List (Nat × List KSR)} {us : List (List SVR)}, notB X l = true → ∀ id b, (encBsR l us).get id = some b → id ≠ X
  | [], us, _, id, b, h => by cases h
  | (b', Ks) :: r, [], _, id, b, h => by cases h
  | (b', Ks) :: r, u :: us, hn, id, b, h => by
    simp only [notB, Bool.and_eq_true, Bool.not_eq_true'] at hn
    simp only [encBsR, Tr.get_set] at h
    split at h
    · rename_i e; subst e
      intro e; subst e
      have := hn.1
      rw [Nat.beq_refl] at this; cases this
    · exact notB_sound (n0 := n0) hn.2 id b h
theorem setC_dom {m : Tr Blk} {mb mc : Nat} {u : V} {id : Nat} {b : Blk} (h : (setC m mb mc u).get id = some b) : ∃ b', m.get id = some b' := by
  unfold setC at h
  split at h
  · rename_i cs hcs
    rw [Tr.get_set] at h
    split at h
    · rename_i e; subst e; exact ⟨_, hcs⟩
    · exact ⟨b, h⟩
  · exact ⟨b, h⟩
theorem setC_get (hr : Rel w0 F G ro ρ hp w) {n0 : Nat} {ids : List Nat} {l : List (Nat × List KSR)} {us : List (List SVR)} (hd : decBsR hp n0 l = some us) (hok : okBsR l us = true) (hap : apartBsR n0 ids l = true) (hi : ∀ i ∈ idsBsR hp l, i ∈ ids) {ρ' : Ren}
    (lowm : ∀ id x, ρ id = some x → id < n0 → ρ' id = some x) (hH : ∀ B l, Hn ρ w ids B = some l → ρ'.H B = some l) {mb mc : Nat} {u v0 : V} {cs : List V} (hmb : hp.m.get mb = some (.cells cs)) (hmc : cs[mc]? = some v0) (hu : ∀ x, VR ρ v0 x → VR ρ' u x) {id : Nat} {b : Blk} (h : (setC (encBsR l us) mb mc u).get id = some b) :
    id < n0 ∧ id ∉ ids ∧ ∃ c, hp.m.get id = some c ∧ ∀ tot o, BR ρ tot c o → BR ρ' tot b o := by
  have plain : ∀ {id b}, (encBsR l us).get id = some b → id < n0 ∧ id ∉ ids ∧ ∃ c, hp.m.get id = some c ∧ ∀ tot o, BR ρ tot c o → BR ρ' tot b o := fun h => by
    obtain ⟨g1, g2, c, g3, g4⟩ := encBs_getR hr hd hok hap hi h
    refine ⟨g1, g2, c, g3, fun tot o hb => ?_⟩
    obtain ⟨g5, g6⟩ := g4 tot o hb
    exact BR_low (ρ := ⟨ρ.f, Hn ρ w ids⟩) lowm hH _ _ g5 g6
  unfold setC at h
  split at h
  · rename_i cs' hcs
    rw [Tr.get_set] at h
    split at h
    · rename_i e; subst e
      injection h with h; subst h
      obtain ⟨g1, g2, c, g3, g4⟩ := plain hcs
      rw [hmb] at g3
      injection g3 with g3; subst g3
      refine ⟨g1, g2, _, hmb, fun tot o hb => ?_⟩
      obtain ⟨l1, t1, f1, e1, e2, e3⟩ := g4 tot o hb
      obtain ⟨l2, t2, f2, k1, k2, k3⟩ := hb
      rw [k1] at e1
      injection e1 with e1 e4 e5
      injection e1 with e1
      subst e1; subst e4; subst e5
      obtain ⟨x, hx1, hx2⟩ := k2.get hmc
      have hs : VRs ρ' (cs'.set mc u) (l2.set mc x) := VRs.set mc e2 (hu x hx2)
      have : l2.set mc x = l2 := by
        apply List.ext_getElem?
        intro i
        rw [List.getElem?_set]
        split
        · rename_i e; subst e
          split
          · exact hx1.symm
          · rename_i hlt
            rw [List.getElem?_eq_none (by omega)]
        · rfl
      rw [this] at hs
      exact ⟨l2, t2, f2, k1, hs, e3⟩
    · exact plain h
  · exact plain h
/-- A state, as its data tell it. -/
theorem SR.toldM (hs : SR w0 F G ro nt ρ st a w) {sm : LSpecM} {d : SDM} {cc : Bool} (hro : RoF sm.sp.nxt ro) (hG : G ≤ sm.sp.nxt) (h0 : w0.nxt ≤ sm.sp.nxt) (h : decStM sm st = some (d, cc)) (hcc : cc = true) (hok : okStM sm d = true) : ∃ ρ' : Ren, leN sm.sp.nxt sm.sp.lim ρ ρ' ∧ SR w0 F G ro nt ρ' (encStM sm d) a w := by
  simp only [okStM, Bool.and_eq_true, decide_eq_true_eq] at hok
  obtain ⟨hok, hlo, hhi⟩ := hok
  unfold decStM at h
  split at h <;> try contradiction
  rename_i hlim
  have hlim := Nat.le_of_ble_eq_true hlim
  split at h <;> try contradiction
  rename_i cs hmb
  -- what both have
  have common : ∀ {d1 : SDR}, decStR sm.sp st = some d1 → okStR sm.sp d1 = true → st.hp.nxt ≤ st.hp.lim ∧ st.hp.lim = sm.sp.lim ∧ apartBsR sm.sp.nxt (idsStR sm.sp st) sm.sp.bs = true ∧ st.dfr = [] ∧ decTsR st.hp sm.sp.nxt st.tmps sm.sp.ts = some d1.1 ∧ decBsR st.hp sm.sp.nxt sm.sp.bs = some d1.2 ∧ okTsR sm.sp.ts d1.1 = true ∧ okBsR sm.sp.bs d1.2 = true := fun {d1} h hok => by
    unfold decStR at h
    split at h <;> try contradiction
    rename_i hc
    simp only [Bool.and_eq_true] at hc
    obtain ⟨⟨⟨⟨c1, c2⟩, c3⟩, c4⟩, c5⟩ := hc
    split at h <;> try contradiction
    rename_i us hus
    split at h <;> try contradiction
    rename_i bs hbs
    injection h with h; subst h
    simp only [okStR, Bool.and_eq_true] at hok
    refine ⟨Nat.le_of_ble_eq_true c4, Nat.eq_of_beq_eq_true c5, c2, ?_, hus, hbs, hok.1, hok.2⟩
    cases hd : st.dfr with
    | nil => rfl
    | cons x y => rw [hd] at c1; cases c1
  have hown : ∀ i ∈ idsStR sm.sp st, ∃ b, st.hp.m.get i = some b := by
    intro i hi
    rcases List.mem_append.1 hi with hi | hi
    · exact idsTs_ownR hi
    · exact idsBs_ownR hi
  have fr := hs.rel.freeze (ids := idsStR sm.sp st) hown
  have hH : ∀ B l, ρ.H B = some l → Hn ρ w (idsStR sm.sp st) B = some l := fun B l h => Hn_old h
  split at h <;> try contradiction
  · -- still nil
    rename_i hmc
    split at h <;> try contradiction
    rename_i d1 hd1
    injection h with h
    injection h with h h2
    subst h
    obtain ⟨c4, c5, c2, hdf, hus, hbs, ok1, ok2⟩ := common hd1 hok
    have lowm : ∀ id x, ρ id = some x → id < sm.sp.nxt → (Ren.cut ⟨ρ.f, Hn ρ w (idsStR sm.sp st)⟩ sm.sp.nxt st.hp.lim) id = some x := fun id x hx hl => by rw [cut_low hl]; exact hx
    have hcut := fr.cutR hro (m := setC (encBsR sm.sp.bs d1.2) sm.mb sm.mc .nils) (n0 := sm.sp.nxt) hG h0 c4 fun id b hb => by
      obtain ⟨g1, g2, c, g3, g4⟩ := setC_get hs.rel hbs ok2 c2 (fun i h => List.mem_append_right _ h) (ρ' := Ren.cut ⟨ρ.f, Hn ρ w (idsStR sm.sp st)⟩ sm.sp.nxt st.hp.lim) lowm (fun _ _ h => h) (u := .nils) hmb hmc (fun x h => h) hb
      refine ⟨g1, c, ?_, fun B t o k1 k2 => ?_⟩
      · show (hideB st.hp.m (idsStR sm.sp st)).get id = some c
        rw [hideB_get]
        cases hm : memN id (idsStR sm.sp st) with
        | true => exact absurd (memN_iff.1 hm) g2
        | false => exact g3
      · obtain ⟨B', t', o', e1, e2, e3, e4⟩ := hs.rel.blk id c (at_get g3)
        have k1 : ρ id = some (B, t) := k1
        rw [k1] at e1
        obtain ⟨rfl, rfl⟩ := Prod.mk.inj (Option.some.inj e1)
        rw [k2] at e2
        injection e2 with e2; subst e2
        exact g4 _ _ e3
    refine ⟨Ren.cut ⟨ρ.f, Hn ρ w (idsStR sm.sp st)⟩ sm.sp.nxt st.hp.lim, ⟨fun id x hx hn => ?_, hH⟩, ?_, fun t v hv => ?_, ?_, hs.nt⟩
    · show (if sm.sp.nxt ≤ id ∧ id < st.hp.lim then none else ρ id) = some x
      rw [c5, if_neg hn]; exact hx
    · have := hcut.raise (Nat.le_succ sm.sp.nxt)
      show Rel w0 F G ro _ ⟨setC (encBsR sm.sp.bs d1.2) sm.mb sm.mc .nils, sm.sp.nxt + 1, sm.sp.lim⟩ w
      rw [← c5]; exact this
    · obtain ⟨g1, g2⟩ := encTs_getR hs.rel hus ok1 (fun i h => List.mem_append_left _ h) hv
      exact low_mono (ρ := ⟨ρ.f, Hn ρ w (idsStR sm.sp st)⟩) lowm (fun _ _ h => h) _ _ g1 (g2 _ (tmpV_sound hs.tr t))
    · have := hs.dr
      rw [hdf] at this; exact this
  · rename_i X es o len clo chi hmc
    split at h <;> try contradiction
    rename_i hc
    simp only [Bool.and_eq_true, Bool.not_eq_true', ile_iff] at hc
    obtain ⟨⟨⟨⟨q1, q2⟩, q3⟩, q4⟩, q5⟩ := hc
    have q1 := Nat.eq_of_beq_eq_true q1
    subst q1
    split at h <;> try contradiction
    rename_i c0 hX
    split at h <;> try contradiction
    rename_i md hmd
    split at h <;> try contradiction
    rename_i d1 hd1
    injection h with h
    injection h with h h2
    subst h
    rw [hcc] at h2
    have h2 := of_decide_eq_true h2
    obtain ⟨c4, c5, c2, hdf, hus, hbs, ok1, ok2⟩ := common hd1 hok
    obtain ⟨B0, t0, ob, x1, x2, x3, x4⟩ := hs.rel.blk X c0 (at_get hX)
    have hXi : X ∉ idsStR sm.sp st := fun hm => by rw [memN_iff.2 hm] at q4; cases q4
    have lowm : ∀ id x, ρ id = some x → id < sm.sp.nxt → ((Ren.cut ⟨ρ.f, Hn ρ w (idsStR sm.sp st)⟩ sm.sp.nxt st.hp.lim).ext sm.sp.nxt (B0, t0)) id = some x := fun id x hx hl => by rw [Ren.ext_ne (by omega), cut_low hl]; exact hx
    have hmv : ∀ x, VR ρ (.slice X 1 o len clo chi) x → VR ((Ren.cut ⟨ρ.f, Hn ρ w (idsStR sm.sp st)⟩ sm.sp.nxt st.hp.lim).ext sm.sp.nxt (B0, t0)) (mvV sm md) x := by
      rintro x ⟨B, tot, n, ln, cap, g1, g2, g3, g4, g5, g6, g7, g8⟩
      rw [x1] at g1
      obtain ⟨rfl, rfl⟩ := Prod.mk.inj (Option.some.inj g1)
      simp only [isZero, Bool.and_eq_true, ieq_iff] at q2
      have hn0 : (n : Int) = 0 := by have := g3.2; omega
      refine ⟨B0, t0, n, ln, cap, Ren.ext_same, g2, by rw [hn0]; exact IR.lit 0, ?_, by omega, by omega, g7, g8⟩
      have e : (ln : Int) = lenMD md := by rw [g4.1, h2]
      have hlo : sm.lo ≤ lenMD md := hlo
      have hhi : lenMD md ≤ sm.hi := hhi
      exact ⟨e, by rw [e]; exact hlo, by rw [e]; exact hhi⟩
    have hcut := fr.cutM hro (m := setC (encBsR sm.sp.bs d1.2) sm.mb sm.mc (mvV sm md)) (n0 := sm.sp.nxt) (X := X) (blk := encMB sm.kd md) (c0 := c0) (B0 := B0) (t0 := t0) hG h0 c4 (fun id b hb => by
      obtain ⟨g1, g2, c, g3, g4⟩ := setC_get hs.rel hbs ok2 c2 (fun i h => List.mem_append_right _ h) (ρ' := (Ren.cut ⟨ρ.f, Hn ρ w (idsStR sm.sp st)⟩ sm.sp.nxt st.hp.lim).ext sm.sp.nxt (B0, t0)) lowm (fun _ _ h => h) hmb hmc hmv hb
      obtain ⟨b', hb'⟩ := setC_dom hb
      refine ⟨g1, notB_sound (n0 := 0) q5 id b' hb', c, ?_, fun B t o k1 k2 k3 => ?_⟩
      · show (hideB st.hp.m (idsStR sm.sp st)).get id = some c
        rw [hideB_get]
        cases hm : memN id (idsStR sm.sp st) with
        | true => exact absurd (memN_iff.1 hm) g2
        | false => exact g3
      · obtain ⟨B', t', o', e1, e2, e3, e4⟩ := hs.rel.blk id c (at_get g3)
        have k1 : ρ id = some (B, t) := k1
        rw [k1] at e1
        obtain ⟨rfl, rfl⟩ := Prod.mk.inj (Option.some.inj e1)
        rw [k2] at e2
        injection e2 with e2; subst e2
        exact g4 _ _ e3) (by
      show (hideB st.hp.m (idsStR sm.sp st)).get X = some c0
      rw [hideB_get, q4]; exact hX) x1 (fun o ho _ => by
      rw [x2] at ho
      injection ho with ho; subst ho
      exact decMB_sound hmd lowm hH x3)
    have henc : encStM sm (d1, md) = ⟨encTsR sm.sp.ts d1.1, [], ⟨(setC (encBsR sm.sp.bs d1.2) sm.mb sm.mc (mvV sm md)).set sm.sp.nxt (some (encMB sm.kd md)), sm.sp.nxt + 1, sm.sp.lim⟩⟩ := by
      unfold encStM
      split
      · rename_i e
        have e : md = .nil := e
        subst e
        unfold decMB at hmd
        split at hmd <;> try contradiction
        all_goals first | (split at hmd <;> first | contradiction | (injection hmd with hmd; cases hmd)) | (injection hmd with hmd; cases hmd)
      · rfl
    refine ⟨(Ren.cut ⟨ρ.f, Hn ρ w (idsStR sm.sp st)⟩ sm.sp.nxt st.hp.lim).ext sm.sp.nxt (B0, t0), ⟨fun id x hx hn => ?_, hH⟩, ?_⟩
    · rw [Ren.ext_ne (by omega)]
      show (if sm.sp.nxt ≤ id ∧ id < st.hp.lim then none else ρ id) = some x
      rw [c5, if_neg hn]; exact hx
    · rw [henc]
      refine ⟨?_, fun t v hv => ?_, ?_, hs.nt⟩
      · show Rel w0 F G ro _ ⟨(setC (encBsR sm.sp.bs d1.2) sm.mb sm.mc (mvV sm md)).set sm.sp.nxt (some (encMB sm.kd md)), sm.sp.nxt + 1, sm.sp.lim⟩ w
        rw [← c5]; exact hcut
      · obtain ⟨g1, g2⟩ := encTs_getR hs.rel hus ok1 (fun i h => List.mem_append_left _ h) hv
        exact low_mono (ρ := ⟨ρ.f, Hn ρ w (idsStR sm.sp st)⟩) lowm (fun _ _ h => h) _ _ g1 (g2 _ (tmpV_sound hs.tr t))
      · have := hs.dr
        rw [hdf] at this; exact this
  all_goals contradiction
/-- A round's end, as its data tell it. -/
def viewLM (sm : LSpecM) (r : X × St) : T (X × SDM) := match decStM sm r.2 with
  | some d => .br (d.2 && okStM sm d.1) (.ret (r.1, d.1)) .fail
  | none => .fail
noncomputable def roundTTM (E : Env) (ro : RO) (call : CallF) (nt : Nat) (sm : LSpecM) (b : C2) (d : SDM) : T (X × SDM) := (evC2 E ro call nt 10000 b (encStM sm d)).bind (viewLM sm)
noncomputable def roundTM (E : Env) (ro : RO) (call : CallF) (nt : Nat) (sm : LSpecM) (b : C2) (d : SDM) : Option (X × SDM) := (roundTTM E ro call nt sm b d).run
theorem viewL_soundM {sm : LSpecM} {r : X × St} {q : X × SDM} (h : (viewLM sm r).run = some q) : decStM sm r.2 = some (q.2, true) ∧ okStM sm q.2 = true ∧ q.1 = r.1 := by
  unfold viewLM at h
  split at h
  · rename_i d hd
    simp only [T.run] at h
    cases hk : d.2 && okStM sm d.1 with
    | true =>
      rw [hk] at h
      simp only [cond_true, Option.some.injEq] at h
      simp only [Bool.and_eq_true] at hk
      subst h
      refine ⟨?_, hk.2, rfl⟩
      rw [hd, ← hk.1]
    | false => rw [hk] at h; cases h
  · cases h
/-- One round. -/
theorem round_okM (hE : EnvOK P E) {call : CallF} (hc : CallOK P E.G call) {b : C2} {sm : LSpecM} {d d2 : SDM} {x : X} (hro : RoF sm.sp.nxt ro) (hG : E.G ≤ sm.sp.nxt) (h0 : w0.nxt ≤ sm.sp.nxt) (hok : ∀ w0 F, b.ok P E w0 F ro nt) (hs : SR w0 F E.G ro nt ρ (encStM sm d) a w) (h : roundTM E ro call nt sm b d = some (x, d2)) (hx : ∀ v, x = .pan v → v.flat = true) :
    b.erase.wp P (fun e a' w' => ∃ ρ', leN sm.sp.nxt sm.sp.lim ρ ρ' ∧ XR ρ' x e ∧ SR w0 F E.G ro nt ρ' (encStM sm d2) a' w') a w := by
  unfold roundTM roundTTM at h
  obtain ⟨r, h1, h2⟩ := T.run_bind_some h
  obtain ⟨g1, g2, g3⟩ := viewL_soundM h2
  simp only at g1 g2 g3
  refine evC2_sound hE hc 10000 b ρ _ a w r _ (hok _ _) hs h1 fun e a' w' ⟨ρ1, k1, k2, k3⟩ => ?_
  obtain ⟨ρ', q1, q3⟩ := k2.toldM hro hG h0 g1 rfl g2
  refine ⟨ρ', (leN.of k1).trans q1, ?_, q3⟩
  rw [← g3] at k3
  cases hxx : x with
  | normal => rw [hxx] at k3; exact k3
  | exit id => rw [hxx] at k3; exact k3
  | ret => rw [hxx] at k3; exact k3
  | pan v =>
    rw [hxx] at k3
    obtain ⟨y, e1, e2⟩ := k3
    exact ⟨y, e1, flat_mono q1.leH _ _ (hx v hxx) e2⟩
/-- A loop: each round leads on, or out. -/
theorem loop_okM (hE : EnvOK P E) {call : CallF} (hc : CallOK P E.G call) {b : C2} {sm : LSpecM} {id : Nat} {σ : Type} {cn : σ → SDM} (hro : RoF sm.sp.nxt ro) (hG : E.G ≤ sm.sp.nxt) (h0 : w0.nxt ≤ sm.sp.nxt) (hok : ∀ w0 F, b.ok P E w0 F ro nt) {R : σ → Prop} {μ : σ → Nat} {D : X → SDM → Prop}
    (step : ∀ s, R s → (∃ s', roundTM E ro call nt sm b (cn s) = some (.normal, cn s') ∧ R s' ∧ μ s' < μ s) ∨ (∃ d2, roundTM E ro call nt sm b (cn s) = some (.exit id, d2) ∧ D .normal d2) ∨ (∃ d2, roundTM E ro call nt sm b (cn s) = some (.ret, d2) ∧ D .ret d2) ∨
      (∃ d2 v, roundTM E ro call nt sm b (cn s) = some (.pan v, d2) ∧ v.flat = true ∧ D (.pan v) d2))
    {s : σ} (hR : R s) (hs : SR w0 F E.G ro nt ρ (encStM sm (cn s)) a w) :
    (Code.block id (.loop b.erase)).wp P (fun e a' w' => ∃ x d2, D x d2 ∧ ∃ ρ', leN sm.sp.nxt sm.sp.lim ρ ρ' ∧ XR ρ' x e ∧ SR w0 F E.G ro nt ρ' (encStM sm d2) a' w') a w := by
  refine wp_block ?_
  have key : ∀ (n : Nat) (s : σ) (ρ1 : Ren) (a : Act) (w : World), R s → μ s < n → leN sm.sp.nxt sm.sp.lim ρ ρ1 → SR w0 F E.G ro nt ρ1 (encStM sm (cn s)) a w →
      Code.rounds P b.erase (Exit.inBlock id (fun e a' w' => ∃ x d2, D x d2 ∧ ∃ ρ', leN sm.sp.nxt sm.sp.lim ρ ρ' ∧ XR ρ' x e ∧ SR w0 F E.G ro nt ρ' (encStM sm d2) a' w')) n a w := by
    intro n
    induction n with
    | zero => intro s ρ1 a w _ h _ _; omega
    | succ n ih =>
      intro s ρ1 a w hR hn hle hs
      rcases step s hR with ⟨s', h1, h2, h3⟩ | ⟨d2, h1, h2⟩ | ⟨d2, h1, h2⟩ | ⟨d2, v, h1, h2, h4⟩
      · refine wp_mono (round_okM hE hc hro hG h0 hok hs h1 (fun v h => by cases h)) fun e a' w' ⟨ρ', k0, k1, k2⟩ => ?_
        simp only [XR] at k1; subst k1
        exact ih s' ρ' a' w' h2 (by omega) (hle.trans k0) k2
      · refine wp_mono (round_okM hE hc hro hG h0 hok hs h1 (fun v h => by cases h)) fun e a' w' ⟨ρ', k0, k1, k2⟩ => ?_
        simp only [XR] at k1; subst k1
        have : Exit.inBlock id (fun e a' w' => ∃ x d2, D x d2 ∧ ∃ ρ', leN sm.sp.nxt sm.sp.lim ρ ρ' ∧ XR ρ' x e ∧ SR w0 F E.G ro nt ρ' (encStM sm d2) a' w') (.exit id) a' w' := by
          simp only [Exit.inBlock, if_true]
          exact ⟨.normal, d2, h2, ρ', hle.trans k0, rfl, k2⟩
        exact this
      · refine wp_mono (round_okM hE hc hro hG h0 hok hs h1 (fun v h => by cases h)) fun e a' w' ⟨ρ', k0, k1, k2⟩ => ?_
        simp only [XR] at k1; subst k1
        exact ⟨.ret, d2, h2, ρ', hle.trans k0, rfl, k2⟩
      · refine wp_mono (round_okM hE hc hro hG h0 hok hs h1 (fun v' h => by injection h with h; subst h; exact h2)) fun e a' w' ⟨ρ', k0, k1, k2⟩ => ?_
        have k1' := k1
        obtain ⟨y, e1, e2⟩ := k1
        subst e1
        exact ⟨.pan v, d2, h4, ρ', hle.trans k0, k1', k2⟩
  exact wp_loop_rounds _ (key (μ s + 1) s ρ a w hR (by omega) (leN.refl _) hs)
/-- The loop, told. -/
def loopFM {σ : Type} (sm : LSpecM) (par : SDM → Option σ) (cn : σ → SDM) (fin : σ → T (LX × σ)) (st : St) : T (X × St) := match Nat.ble st.hp.nxt sm.sp.nxt with
  | true => match decStM sm ⟨st.tmps, st.dfr, ⟨st.hp.m, sm.sp.nxt, st.hp.lim⟩⟩ with
    | some d => match par d.1 with
      | some s => .br (d.2 && okStM sm d.1) ((fin s).bind fun r => .ret (r.1.x, encStM sm (cn r.2))) .fail
      | none => .fail
    | none => .fail
  | false => .fail
/-- Each round does as the model says. -/
def LeadsM {σ : Type} (E : Env) (ro : RO) (call : CallF) (nt : Nat) (sm : LSpecM) (b : C2) (id : Nat) (cn : σ → SDM) (fin : σ → T (LX × σ)) (μ : σ → Nat) : Prop :=
  ∀ s r, (fin s).run = some r → (∃ s', roundTM E ro call nt sm b (cn s) = some (.normal, cn s') ∧ (fin s').run = some r ∧ μ s' < μ s) ∨ (roundTM E ro call nt sm b (cn s) = some (.exit id, cn r.2) ∧ r.1 = .nrm) ∨
    (roundTM E ro call nt sm b (cn s) = some (.ret, cn r.2) ∧ r.1 = .ret) ∨ (∃ v, roundTM E ro call nt sm b (cn s) = some (.pan v, cn r.2) ∧ v.flat = true ∧ r.1 = .pan v)
theorem loopF_okM (hE : EnvOK P E) {call : CallF} (hc : CallOK P E.G call) {b : C2} {id : Nat} {sm : LSpecM} {σ : Type} {cn : σ → SDM} {par : SDM → Option σ} {fin : σ → T (LX × σ)} {μ : σ → Nat} (hro : RoF sm.sp.nxt ro) (hG : E.G ≤ sm.sp.nxt) (hok : ∀ w0 F, b.ok P E w0 F ro nt) (hpar : ∀ d s, par d = some s → d = cn s) (step : LeadsM E ro call nt sm b id cn fin μ) :
    ∀ w0 F, HookOK P E w0 F ro nt (.block id (.loop b.erase)) (loopFM sm par cn fin) := by
  intro w0 F ρ st a w r hs h
  unfold loopFM at h
  split at h <;> try (cases h; done)
  rename_i hn
  have hn := Nat.le_of_ble_eq_true hn
  have hfr := hs.rel.fresh
  have h0 := Nat.le_trans hs.rel.le0 hn
  have hs : SR w0 F E.G ro nt ρ ⟨st.tmps, st.dfr, ⟨st.hp.m, sm.sp.nxt, st.hp.lim⟩⟩ a w := ⟨hs.rel.raise hn, hs.tr, hs.dr, hs.nt⟩
  split at h <;> try (cases h; done)
  rename_i d hd
  split at h <;> try (cases h; done)
  rename_i s hp
  simp only [T.run] at h
  cases hk : d.2 && okStM sm d.1 with
  | false => rw [hk] at h; cases h
  | true =>
    rw [hk] at h
    simp only [cond_true] at h
    simp only [Bool.and_eq_true] at hk
    obtain ⟨q, h1, h2⟩ := T.run_bind_some h
    injection h2 with h2; subst h2
    have hl : st.hp.lim = sm.sp.lim := by
      have key : ∀ {d1}, decStR sm.sp ⟨st.tmps, st.dfr, ⟨st.hp.m, sm.sp.nxt, st.hp.lim⟩⟩ = some d1 → st.hp.lim = sm.sp.lim := fun {d1} hd => by
        unfold decStR at hd
        split at hd <;> try contradiction
        rename_i hc
        simp only [Bool.and_eq_true] at hc
        exact Nat.eq_of_beq_eq_true hc.2
      unfold decStM at hd
      split at hd <;> try contradiction
      split at hd <;> try contradiction
      split at hd <;> try contradiction
      · split at hd <;> try contradiction
        rename_i q; exact key q
      · split at hd <;> try contradiction
        split at hd <;> try contradiction
        split at hd <;> try contradiction
        split at hd <;> try contradiction
        rename_i q; exact key q
    obtain ⟨ρ1, g1, g3⟩ := hs.toldM hro hG h0 hd hk.1 hk.2
    rw [hpar d.1 s hp] at g3
    have hle : ∀ {ρ' : Ren}, leN sm.sp.nxt sm.sp.lim ρ ρ' → ρ.le ρ' := fun k => ⟨fun id x hx => k.le id x hx fun hq => (by
      rw [hfr id (by omega) (by omega)] at hx
      cases hx), k.leH⟩
    refine wp_mono (loop_okM hE hc hro (cn := cn) (R := fun s => (fin s).run = some q) (μ := μ) (D := fun x d2 => x = q.1.x ∧ d2 = cn q.2) hG h0 hok (fun s hR => ?_) h1 g3) ?_
    · rcases step s q hR with ⟨s', h1, h2, h3⟩ | ⟨h1, h2⟩ | ⟨h1, h2⟩ | ⟨v, h1, h2, h3⟩
      · exact .inl ⟨s', h1, h2, h3⟩
      · exact .inr (.inl ⟨_, h1, by rw [h2]; rfl, rfl⟩)
      · exact .inr (.inr (.inl ⟨_, h1, by rw [h2]; rfl, rfl⟩))
      · exact .inr (.inr (.inr ⟨_, v, h1, h2, by rw [h3]; rfl, rfl⟩))
    · rintro e a' w' ⟨x, d2, ⟨rfl, rfl⟩, ρ', k0, k1, k2⟩
      exact ⟨ρ', hle (g1.trans k0), k2, k1⟩
end
end Go.Ev
