/- Own text: loops that append to a slice of numbers, which is nil at first: two shapes of a state. -/
import Derived.Test.YtmlfmkebljdoiaaGreatDoorLg
namespace Go.Proofs.YtmlfmkebljdoiaaGreatDoor
open Go.Ev Go.Ev.Tr Go.Proofs
set_option maxRecDepth 1000000
/-- sp: all else; its nxt is the slice's block. tc: the temp that holds the slice. -/
structure SSpec where
  sp : LSpec
  tc : Nat
  k : IntKind
  lo : Int
  hi : Int
  mx : Int
def keysLt (n : Nat) : List (Nat × BS) → Bool
  | [] => true
  | (t, _) :: r => Nat.ble (t + 1) n && keysLt n r
theorem keysLt_get {n t : Nat} : ∀ {l : List (Nat × BS)}, keysLt n l = true → inKeys t l → t < n
  | [], _, h => h.elim
  | (t', _) :: r, hk, h => by
    simp only [keysLt, Bool.and_eq_true] at hk
    have := Nat.le_of_ble_eq_true hk.1
    rcases h with h | h
    · omega
    · exact keysLt_get hk.2 h
def blkIn (s : SSpec) : Option Blk → Bool
  | some (.ints k _ lo hi) => decide (k = s.k) && ile s.lo lo && ile hi s.hi
  | some (.vec [.int k i]) => decide (k = s.k) && ile s.lo i.lo && ile i.hi s.hi
  | _ => false
def xsOf : Blk → List Int
  | .ints _ xs _ _ => xs
  | .vec cs => cs.map nOf
  | _ => []
/-- Its form is right. -/
def slOK (s : SSpec) (st : St) : Bool := match tmpV st.tmps s.tc with
  | .nils => true
  | .slice id es o _ _ chi => Nat.beq es 1 && isZero o && Nat.ble s.sp.nxt id && ile chi big63 && blkIn s (st.hp.m.get id)
  | _ => false
/-- Its length is. -/
def slLn (s : SSpec) (st : St) : Bool := match tmpV st.tmps s.tc with
  | .slice _ _ _ l _ _ => decide (0 ≤ l.n ∧ l.n ≤ s.mx)
  | _ => true
def okS (s : SSpec) (st : St) : Bool := okSt s.sp st && slOK s st
def slotV (s : SSpec) (n : Int) : V := .slice s.sp.nxt 1 (I.lit 0) ⟨n, 0, s.mx⟩ 0 big63
def encS (s : SSpec) (st : St) : St := match tmpV st.tmps s.tc with
  | .slice id _ _ l _ _ => ⟨(encTs s.sp.ts st.tmps).set s.tc (some (slotV s l.n)), [], ⟨(encBs s.sp.bs st.hp.m).set s.sp.nxt (some (.ints s.k (xsOf (blkAt st.hp.m id)) s.lo s.hi)), s.sp.nxt + 1, s.sp.lim⟩⟩
  | _ => ⟨(encTs s.sp.ts st.tmps).set s.tc (some .nils), [], ⟨encBs s.sp.bs st.hp.m, s.sp.nxt, s.sp.lim⟩⟩
structure CanonS (s : SSpec) (st : St) : Prop where
  dfr : st.dfr = []
  lim : st.hp.lim = s.sp.lim
  shape : (st.hp.nxt = s.sp.nxt ∧ ∀ t, (∃ u, st.hp.m.get t = some u) ↔ inKeys t s.sp.bs) ∨ (st.hp.nxt = s.sp.nxt + 1 ∧ ∀ t, (∃ u, st.hp.m.get t = some u) ↔ t = s.sp.nxt ∨ inKeys t s.sp.bs)
theorem canonS_enc (s : SSpec) (st : St) : CanonS s (encS s st) := by
  unfold encS
  split
  · refine ⟨rfl, rfl, .inr ⟨rfl, fun t => ?_⟩⟩
    simp only [Tr.get_set]
    by_cases e : t = s.sp.nxt
    · subst e; simp
    · simp only [e, if_false, false_or]; exact encBs_keys
  · exact ⟨rfl, rfl, .inl ⟨rfl, fun t => encBs_keys⟩⟩
theorem blkIn_BR {s : SSpec} {b : Blk} (h : blkIn s (some b) = true) {ρ ρ' : Ren} {tot : Nat} {o : Obj} (hb : BR ρ tot b o) : BR ρ' tot (.ints s.k (xsOf b) s.lo s.hi) o := by
  unfold blkIn at h
  split at h
  · rename_i k xs lo hi he
    injection he with he; subst he
    simp only [Bool.and_eq_true, decide_eq_true_eq, ile_iff] at h
    obtain ⟨⟨rfl, h1⟩, h2⟩ := h
    obtain ⟨l, t, fz, rfl, q1, q2, q3, q4⟩ := hb
    exact ⟨l, t, fz, rfl, q1, q2, fun i hi' => ⟨(q3 i hi').1, Int.le_trans h1 (q3 i hi').2.1, Int.le_trans (q3 i hi').2.2 h2⟩, q4⟩
  · rename_i k i he
    injection he with he; subst he
    simp only [Bool.and_eq_true, decide_eq_true_eq, ile_iff] at h
    obtain ⟨⟨rfl, h1⟩, h2⟩ := h
    obtain ⟨l, l', t, fz, rfl, ⟨x, xs, rfl, ⟨c, rfl, hc⟩, hnil⟩, q2, q3⟩ := hb
    simp only [VRs] at hnil; subst hnil
    have hc1 := hc.1
    have hc2 := hc.2
    refine ⟨_, t, fz, rfl, q2, ?_, fun j hj => ?_, q3⟩
    · rw [← q2]; simp [xsOf]
    · have hj : j < 1 := by simpa [xsOf] using hj
      obtain rfl : j = 0 := by omega
      refine ⟨?_, ?_, ?_⟩
      · show some (Value.int s.k c) = some (.int s.k i.n); rw [hc1]
      · show s.lo ≤ i.n; omega
      · show i.n ≤ s.hi; omega
  · cases h
section
variable {P : Program} {E : Env} {ρ ρ' ρ0 : Ren} {w0 : Base} {w w' : World} {F : Nat → Prop} {ro : RO} {st st' : St} {a a' : Act} {nt : Nat} {s : SSpec}
theorem _root_.Go.Ev.SR.backS (hs : SR w0 F E.G ro nt ρ st a w) (hc : CanonS s st) (hkl : keysLt s.sp.nxt s.sp.bs = true) (hlt : s.sp.nxt < s.sp.lim) (hG : E.G ≤ s.sp.nxt) (h0 : w0.nxt ≤ s.sp.nxt) (hro : ro s.sp.nxt = none) (hrou : ∀ id b, ro id = some b → b.under s.sp.nxt = true)
    (h' : SR ⟨w, ρ, st.hp.nxt⟩ (OwnB ρ st.hp) E.G ro nt ρ' st' a' w') (hle : ρ.le ρ') (hk : okS s st' = true) (hln : slLn s st' = true) :
    ∃ ρ2 : Ren, (∀ id, id ≠ s.sp.nxt → ρ2 id = ρ id) ∧ SR w0 F E.G ro nt ρ2 (encS s st') a' w' := by
  unfold okS at hk
  simp only [okSt, Bool.and_eq_true] at hk
  obtain ⟨⟨⟨h1, h2⟩, h3⟩, h4⟩ := hk
  have hr := hs.rel
  have hnx : s.sp.nxt ≤ st.hp.nxt ∧ st.hp.nxt ≤ s.sp.nxt + 1 := by rcases hc.shape with h | h <;> omega
  have hun0 : ∀ id x, ρ' id = some x → id < s.sp.nxt → ρ id = some x := fun id x hx hlt => by
    rcases h'.rel.ren id x hx with q | q
    · exact q
    · have : st.hp.nxt ≤ id := q.1
      omega
  have old : ∀ id b, (encBs s.sp.bs st'.hp.m).get id = some b → id < s.sp.nxt ∧ ∃ c0, st.hp.m.get id = some c0 := fun id b hb => by
    have hik := encBs_keys.1 ⟨b, hb⟩
    refine ⟨keysLt_get hkl hik, ?_⟩
    rcases hc.shape with h | h
    · exact (h.2 id).2 hik
    · exact (h.2 id).2 (.inr hik)
  have ownB : ∀ B, OwnB ρ st.hp B → F B ∨ w0.heap.size ≤ B := fun B ⟨id, b, t, g1, g2⟩ => by
    obtain ⟨B1, t1, o1, e1, _, _, e4⟩ := hr.blk id b (at_get g1)
    rw [g2] at e1
    obtain ⟨rfl, rfl⟩ := Prod.mk.inj (Option.some.inj e1)
    exact e4.resolve_left (by rw [g1]; simp)
  have frame : ∀ B, B < w0.heap.size → ¬ F B → w'.heap[B]? = w0.heap[B]? := fun B hB hF => by
    rw [h'.rel.frame B (Nat.lt_of_lt_of_le hB hr.size) ?_]
    · exact hr.frame B hB hF
    · intro ho
      rcases ownB B ho with g | g
      · exact hF g
      · omega
  have roB : ∀ id b, ro id = some b → id ≠ s.sp.nxt ∧ ∃ B tot o, ρ id = some (B, tot) ∧ w'.heap[B]? = some o ∧ BR ρ tot b o := fun id b hb => by
    have hne : id ≠ s.sp.nxt := fun e => by rw [e, hro] at hb; cases hb
    obtain ⟨B, t, o, e1, e2, e3, e4⟩ := hr.blk id b (hr.at_ro hb)
    have hn : st.hp.m.get id = none := by
      cases hg : st.hp.m.get id with
      | none => rfl
      | some c => rw [hr.sep id c hg] at hb; cases hb
    obtain ⟨_, _, k5⟩ := kept hr (fun _ _ h => h) (fun _ b h => ⟨b, h⟩) h'.rel (hr.at_ro hb) hn e1
    exact ⟨hne, B, t, o, e1, by rw [k5]; exact e2, e3⟩
  have drn : ∀ (ρ2 : Ren), DR ρ2 [] a'.defers := fun ρ2 => by
    have := h'.dr
    cases hd : st'.dfr with
    | nil => rw [hd] at this; exact this
    | cons x y => rw [hd] at h1; cases h1
  -- all but the slice, under a renaming that agrees
  have main : ∀ (ρ2 : Ren), (∀ id, id ≠ s.sp.nxt → ρ2 id = ρ id) → ∀ id x, ρ' id = some x → id < s.sp.nxt → ρ2 id = some x := fun ρ2 hag id x hx hl => by
    rw [hag id (by omega)]; exact hun0 id x hx hl
  -- what is known of a block, and where it is
  have kn : ∀ (ρ2 : Ren), (∀ id, id ≠ s.sp.nxt → ρ2 id = ρ id) → ∀ id b, (encBs s.sp.bs st'.hp.m).get id = some b → ∃ B tot o c, ρ2 id = some (B, tot) ∧ ρ' id = some (B, tot) ∧ w'.heap[B]? = some o ∧ BR ρ2 tot b o ∧ (F B ∨ w0.heap.size ≤ B) ∧ st'.hp.m.get id = some c := fun ρ2 hag id b k1 => by
    obtain ⟨u1, c, u2, u3⟩ := encBs_get h3 k1
    obtain ⟨hl, c0, hc0⟩ := old id b k1
    obtain ⟨B, t, o, e1, e2, e3, e4⟩ := h'.rel.blk id c (at_get u2)
    obtain ⟨B0, t0, o0, f1, f2, f3, f4⟩ := hr.blk id c0 (at_get hc0)
    have := hle _ _ f1
    rw [e1] at this
    obtain ⟨rfl, rfl⟩ := Prod.mk.inj (Option.some.inj this)
    exact ⟨B, t, o, c, by rw [hag id (by omega)]; exact f1, e1, e2, BR_under (main ρ2 hag) _ _ u1 (u3 _ _ _ e3), f4.resolve_left (by rw [hc0]; simp), u2⟩
  have tmps : ∀ (ρ2 : Ren), (∀ id, id ≠ s.sp.nxt → ρ2 id = ρ id) → ∀ t v, (encTs s.sp.ts st'.tmps).get t = some v → VR ρ2 v (a'.tmps.getD t undef) := fun ρ2 hag t v hv => by
    obtain ⟨u1, u2⟩ := encTs_get h2 hv
    exact under_mono (main ρ2 hag) _ _ u1 (u2 _ _ (tmpV_sound h'.tr t))
  have hlim := hc.lim
  have slv := tmpV_sound h'.tr s.tc
  unfold slOK at h4
  unfold slLn at hln
  unfold encS
  -- from what is known to the relation
  have fin : ∀ (ρ2 : Ren) (hp2 : Hp), (∀ id, id ≠ s.sp.nxt → ρ2 id = ρ id) → hp2.lim = s.sp.lim → s.sp.nxt ≤ hp2.nxt → (∀ j, hp2.nxt ≤ j → ρ2 j = none ∨ s.sp.lim ≤ j) → (∀ x, ρ2 s.sp.nxt = some x → hp2.nxt = s.sp.nxt + 1) → (∀ j, j ≠ s.sp.nxt → hp2.m.get j = (encBs s.sp.bs st'.hp.m).get j) →
      (∀ b, hp2.m.get s.sp.nxt = some b → ∃ B tot o c id, ρ2 s.sp.nxt = some (B, tot) ∧ ρ' id = some (B, tot) ∧ s.sp.nxt ≤ id ∧ w'.heap[B]? = some o ∧ BR ρ2 tot b o ∧ st'.hp.m.get id = some c) →
      Rel w0 F E.G ro ρ2 hp2 w' := fun ρ2 hp2 hag hl2 hn2 hfr hsl hget hslot => by
    have kn2 : ∀ j b, hp2.at ro j = some b → ∃ B tot o c j', ρ2 j = some (B, tot) ∧ ρ' j' = some (B, tot) ∧ w'.heap[B]? = some o ∧ BR ρ2 tot b o ∧ (hp2.m.get j = none ∨ F B ∨ w0.heap.size ≤ B) ∧ st'.hp.at ro j' = some c ∧ ((j = s.sp.nxt ∧ s.sp.nxt ≤ j' ∧ st'.hp.m.get j' = some c) ∨ (j ≠ s.sp.nxt ∧ j' = j ∧ (j < s.sp.nxt ∨ ro j = some b))) := fun j b hj => by
      rcases at_split hj with k1 | ⟨k1, k2⟩
      · by_cases e : j = s.sp.nxt
        · subst e
          obtain ⟨B, tot, o, c, id, r1, r2, r3, r4, r5, r6⟩ := hslot b k1
          refine ⟨B, tot, o, c, id, r1, r2, r4, r5, .inr ?_, at_get r6, .inl ⟨rfl, r3, r6⟩⟩
          obtain ⟨B1, t1, o1, e1, e2, e3, e4⟩ := h'.rel.blk id c (at_get r6)
          rw [r2] at e1
          obtain ⟨rfl, rfl⟩ := Prod.mk.inj (Option.some.inj e1)
          rcases e4.resolve_left (by rw [r6]; simp) with q | q
          · exact ownB _ q
          · exact .inr (Nat.le_trans hr.size q)
        · rw [hget j e] at k1
          obtain ⟨B, tot, o, c, r1, r2, r3, r4, r5, r6⟩ := kn _ hag j b k1
          exact ⟨B, tot, o, c, j, r1, r2, r3, r4, .inr r5, at_get r6, .inr ⟨e, rfl, .inl (old j b k1).1⟩⟩
      · obtain ⟨hne, B, tot, o, r1, r2, r3⟩ := roB j b k2
        refine ⟨B, tot, o, b, j, by rw [hag j hne]; exact r1, hle _ _ r1, r2, ?_, .inl k1, h'.rel.at_ro k2, .inr ⟨hne, rfl, .inr k2⟩⟩
        exact BR_under (n := s.sp.nxt) (fun id x hx hl => by rw [hag id (by omega)]; exact hx) _ _ (hrou j b k2) r3
    refine ⟨fun j b hj => ?_, fun i j b c B t t' hi hj e1 e2 => ?_, fun j b hj => ?_, fun j hj hj2 => ?_, frame, Nat.le_trans hr.size h'.rel.size, h'.rel.tape.trans hr.tape, h'.rel.os.trans hr.os, h'.rel.output.trans hr.output, fun g hg => ?_, fun j x hx => ?_, by omega⟩
    · obtain ⟨B, tot, o, c, j', r1, r2, r3, r4, r5, _⟩ := kn2 j b hj
      exact ⟨B, tot, o, r1, r3, r4, r5⟩
    · obtain ⟨B1, tot1, o1, c1, i', r1, r2, r3, r4, r5, r6, r7⟩ := kn2 i b hi
      obtain ⟨B2, tot2, o2, c2, j', s1, s2, s3, s4, s5, s6, s7⟩ := kn2 j c hj
      rw [e1] at r1
      obtain ⟨rfl, rfl⟩ := Prod.mk.inj (Option.some.inj r1)
      rw [e2] at s1
      obtain ⟨rfl, rfl⟩ := Prod.mk.inj (Option.some.inj s1)
      rcases h'.rel.inj _ _ _ _ _ _ _ r6 s6 r2 s2 with he | ⟨u1, u2⟩
      rotate_left
      · refine .inr ⟨?_, ?_⟩
        · rcases r7 with ⟨q1, q2, q3⟩ | ⟨q1, q2, q3⟩
          · rw [u1] at q3; cases q3
          · rw [hget i q1]
            cases hg : (encBs s.sp.bs st'.hp.m).get i with
            | none => rfl
            | some b' =>
              obtain ⟨_, c', u3, _⟩ := encBs_get h3 hg
              rw [q2] at u1; rw [u1] at u3; cases u3
        · rcases s7 with ⟨q1, q2, q3⟩ | ⟨q1, q2, q3⟩
          · rw [u2] at q3; cases q3
          · rw [hget j q1]
            cases hg : (encBs s.sp.bs st'.hp.m).get j with
            | none => rfl
            | some b' =>
              obtain ⟨_, c', u3, _⟩ := encBs_get h3 hg
              rw [q2] at u2; rw [u2] at u3; cases u3
      left
      subst he
      rcases r7 with ⟨q1, q2, q3⟩ | ⟨q1, q2, q3⟩ <;> rcases s7 with ⟨p1, p2, p3⟩ | ⟨p1, p2, p3⟩
      · rw [q1, p1]
      · subst p2
        rcases p3 with p3 | p3
        · omega
        · rw [h'.rel.sep _ _ q3] at p3; cases p3
      · subst q2
        rcases q3 with q3 | q3
        · omega
        · rw [h'.rel.sep _ _ p3] at q3; cases q3
      · rw [← q2, ← p2]
    · by_cases e : j = s.sp.nxt
      · rw [e]; exact hro
      · rw [hget j e] at hj
        obtain ⟨_, c0, hc0⟩ := old j b hj
        exact hr.sep _ _ hc0
    · rw [hl2] at hj2
      rcases hfr j hj with h | h
      · exact h
      · omega
    · rw [hag g (by omega)]; exact hr.glob g hg
    · by_cases e : j = s.sp.nxt
      · subst e
        have := hsl x hx
        exact .inr ⟨h0, by omega⟩
      · rw [hag j e] at hx
        rcases hr.ren j x hx with q | q
        · exact .inl q
        · refine .inr ⟨q.1, ?_⟩
          have := q.2
          omega
  split at h4
  · rename_i hv
    rw [hv] at slv ⊢
    simp only
    have hag : ∀ id, id ≠ s.sp.nxt → (fun j => if j = s.sp.nxt then none else ρ j : Ren) id = ρ id := fun id hid => if_neg hid
    refine ⟨fun j => if j = s.sp.nxt then none else ρ j, hag, ?_, fun t v hv => ?_, drn _, h'.nt⟩
    · refine fin _ _ hag rfl (Nat.le_refl _) (fun j hj => ?_) (fun x hx => by simp at hx) (fun j _ => rfl) (fun b hb => ?_)
      · simp only at hj ⊢
        by_cases e : j = s.sp.nxt
        · rw [if_pos e]; exact .inl rfl
        · rw [if_neg e]
          by_cases e2 : j < s.sp.lim
          · exact .inl (hr.fresh j (by omega) (by omega))
          · exact .inr (by omega)
      · have := (old _ b hb).1; omega
    · simp only [Tr.get_set] at hv
      split at hv
      · rename_i e; subst e
        injection hv with hv; subst hv
        exact slv
      · exact tmps _ hag t v hv
  · rename_i id es o l clo chi hv
    rw [hv] at slv hln ⊢
    simp only
    simp only [Bool.and_eq_true] at h4
    obtain ⟨⟨⟨⟨q1, q2⟩, q3⟩, q4⟩, q5⟩ := h4
    have q1 := Nat.eq_of_beq_eq_true q1
    have q3 := Nat.le_of_ble_eq_true q3
    rw [ile_iff] at q4
    subst q1
    have hln := of_decide_eq_true hln
    obtain ⟨B, tot, no, nl, cap, g1, gv, g2, g3, g4, g5, g6, g7⟩ := slv
    obtain ⟨c, hcb⟩ : ∃ c, st'.hp.m.get id = some c := by
      cases hg : st'.hp.m.get id with
      | none => rw [hg] at q5; cases q5
      | some c => exact ⟨c, rfl⟩
    rw [hcb] at q5
    obtain ⟨B1, t1, o1, e1, e2, e3, e4⟩ := h'.rel.blk id c (at_get hcb)
    rw [g1] at e1
    obtain ⟨rfl, rfl⟩ := Prod.mk.inj (Option.some.inj e1)
    have hag : ∀ j, j ≠ s.sp.nxt → (fun j => if j = s.sp.nxt then some (B, tot) else ρ j : Ren) j = ρ j := fun j hid => if_neg hid
    have hself : (fun j => if j = s.sp.nxt then some (B, tot) else ρ j : Ren) s.sp.nxt = some (B, tot) := if_pos rfl
    have hbk : blkAt st'.hp.m id = c := by unfold blkAt; rw [hcb]
    refine ⟨fun j => if j = s.sp.nxt then some (B, tot) else ρ j, hag, ?_, fun t v hv => ?_, drn _, h'.nt⟩
    · refine fin _ _ hag rfl (by show s.sp.nxt ≤ s.sp.nxt + 1; omega) (fun j hj => ?_) (fun x _ => rfl) (fun j hj => by simp only [Tr.get_set, if_neg hj]) (fun b hb => ?_)
      · have hj : s.sp.nxt + 1 ≤ j := hj
        rw [if_neg (show j ≠ s.sp.nxt by omega)]
        by_cases e2 : j < s.sp.lim
        · exact .inl (hr.fresh j (by omega) (by omega))
        · exact .inr (by omega)
      · simp only [Tr.get_set, if_true, Option.some.injEq] at hb
        subst hb
        refine ⟨B, tot, o1, c, id, hself, g1, q3, e2, ?_, hcb⟩
        rw [hbk]; exact blkIn_BR q5 e3
    · simp only [Tr.get_set] at hv
      split at hv
      · rename_i e; subst e
        injection hv with hv; subst hv
        rw [gv]
        have hz := isZero_lit q2 g2
        have h3 := g3.1
        exact ⟨B, tot, no, nl, cap, hself, rfl, hz, ⟨h3, by show 0 ≤ (nl : Int); omega, by show (nl : Int) ≤ s.mx; omega⟩, by show (0 : Int) ≤ cap; omega, by omega, g6, g7⟩
      · exact tmps _ hag t v hv
  · cases h4
/-- A round, as it is looked at. -/
def viewS (s : SSpec) (r : X × St) : T (X × St) := match okS s r.2 with
  | true => .br (slLn s r.2) (.ret (r.1, encS s r.2)) .fail
  | false => .fail
theorem viewS_sound {r : X × St} {q : X × St} (h : (viewS s r).run = some q) : okS s r.2 = true ∧ slLn s r.2 = true ∧ q = (r.1, encS s r.2) := by
  unfold viewS at h
  split at h
  · rename_i hk
    simp only [T.run] at h
    cases hl : slLn s r.2 with
    | false => rw [hl] at h; cases h
    | true => rw [hl] at h; injection h with h; exact ⟨hk, rfl, h.symm⟩
  · cases h
noncomputable def roundS (E : Env) (ro : RO) (call : CallF) (nt : Nat) (s : SSpec) (b : C2) (st : St) : Option (X × St) := ((evC2 E ro call nt 10000 b st).bind (viewS s)).run
/-- What is to be of the slice's number, and of the rest. -/
structure SlotOK (E : Env) (w0 : Base) (ro : RO) (s : SSpec) : Prop where
  kl : keysLt s.sp.nxt s.sp.bs = true
  lt : s.sp.nxt < s.sp.lim
  G : E.G ≤ s.sp.nxt
  n0 : w0.nxt ≤ s.sp.nxt
  hro : ro s.sp.nxt = none
  hrou : ∀ id b, ro id = some b → b.under s.sp.nxt = true
theorem roundS_ok (hE : EnvOK P E) {call : CallF} (hc : CallOK P E.G call) {b : C2} (hok : ∀ w0 F, b.ok P E w0 F ro nt) (hS : SlotOK E w0 ro s) (hs : SR w0 F E.G ro nt ρ st a w) (hcn : CanonS s st) {x : X} {st2 : St} (h : roundS E ro call nt s b st = some (x, st2)) (hx : x = .normal ∨ ∃ id, x = .exit id) :
    b.erase.wp P (fun e a' w' => (∀ ρ, XR ρ x e) ∧ CanonS s st2 ∧ ∃ ρ2 : Ren, (∀ id, id ≠ s.sp.nxt → ρ2 id = ρ id) ∧ SR w0 F E.G ro nt ρ2 st2 a' w') a w := by
  unfold roundS at h
  obtain ⟨r, h1, h2⟩ := T.run_bind_some h
  obtain ⟨hk, hl, hq⟩ := viewS_sound h2
  simp only [Prod.mk.injEq] at hq
  obtain ⟨rfl, rfl⟩ := hq
  refine evC2_sound hE hc 10000 b ρ st a w r _ (hok _ _) hs.base h1 fun e a' w' ⟨ρ', k1, k2, k3⟩ => ?_
  refine ⟨?_, canonS_enc s _, hs.backS hcn hS.kl hS.lt hS.G hS.n0 hS.hro hS.hrou k2 k1 hk hl⟩
  rcases hx with hx | ⟨id, hx⟩ <;> rw [hx] at k3 ⊢ <;> exact fun _ => k3
/-- A loop: each round leads on, or out. -/
theorem loopS_ok (hE : EnvOK P E) {call : CallF} (hc : CallOK P E.G call) {b : C2} {id : Nat} {σ : Type} {cn : σ → St} (hok : ∀ w0 F, b.ok P E w0 F ro nt) (hS : SlotOK E w0 ro s) (hcn : ∀ x, CanonS s (cn x)) {R : σ → Prop} {μ : σ → Nat} {D : St → Prop}
    (step : ∀ x, R x → (∃ x', roundS E ro call nt s b (cn x) = some (.normal, cn x') ∧ R x' ∧ μ x' < μ x) ∨ (∃ st2, roundS E ro call nt s b (cn x) = some (.exit id, st2) ∧ D st2))
    {x : σ} (hR : R x) (hs : SR w0 F E.G ro nt ρ (cn x) a w) :
    (Code.block id (.loop b.erase)).wp P (fun e a' w' => e = .normal ∧ ∃ st2 ρ2, D st2 ∧ (∀ id, id ≠ s.sp.nxt → ρ2 id = ρ id) ∧ SR w0 F E.G ro nt ρ2 st2 a' w') a w := by
  refine wp_block ?_
  have key : ∀ (n : Nat) (x : σ) (ρk : Ren) (a : Act) (w : World), R x → μ x < n → (∀ id, id ≠ s.sp.nxt → ρk id = ρ id) → SR w0 F E.G ro nt ρk (cn x) a w →
      Code.rounds P b.erase (Exit.inBlock id (fun e a' w' => e = .normal ∧ ∃ st2 ρ2, D st2 ∧ (∀ id, id ≠ s.sp.nxt → ρ2 id = ρ id) ∧ SR w0 F E.G ro nt ρ2 st2 a' w')) n a w := by
    intro n
    induction n with
    | zero => intro x ρk a w _ h _ _; omega
    | succ n ih =>
      intro x ρk a w hR hn hag hs
      rcases step x hR with ⟨x', h1, h2, h3⟩ | ⟨st2, h1, h2⟩
      · refine wp_mono (roundS_ok hE hc hok hS hs (hcn x) h1 (.inl rfl)) fun e a' w' ⟨k1, _, ρ2, k2, k3⟩ => ?_
        have k1 := k1 ρ
        simp only [XR] at k1; subst k1
        exact ih x' ρ2 a' w' h2 (by omega) (fun id hid => (k2 id hid).trans (hag id hid)) k3
      · refine wp_mono (roundS_ok hE hc hok hS hs (hcn x) h1 (.inr ⟨_, rfl⟩)) fun e a' w' ⟨k1, _, ρ2, k2, k3⟩ => ?_
        have k1 := k1 ρ
        simp only [XR] at k1; subst k1
        have : Exit.inBlock id (fun e a' w' => e = .normal ∧ ∃ st2 ρ2, D st2 ∧ (∀ id, id ≠ s.sp.nxt → ρ2 id = ρ id) ∧ SR w0 F E.G ro nt ρ2 st2 a' w') (.exit id) a' w' := by
          simp only [Exit.inBlock, if_true]
          exact ⟨trivial, st2, ρ2, h2, fun id hid => (k2 id hid).trans (hag id hid), k3⟩
        exact this
  exact wp_loop_rounds _ (key (μ x + 1) x ρ a w hR (by omega) (fun _ _ => rfl) hs)
/-- The loop, told: from a nil slice. fin: where it leads. -/
noncomputable def loopSF {σ : Type} (s : SSpec) (par : St → σ) (cA cB : σ → St) (sh : σ → Bool) (fin : σ → Bool) (nx : σ → σ) (st : St) : T (X × St) := match okSt s.sp st && Nat.beq st.hp.nxt s.sp.nxt && Nat.beq st.hp.lim s.sp.lim with
  | true => match tmpV st.tmps s.tc with
    | .nils => .br (fin (par st)) (.br (sh (nx (par st))) (.ret (.normal, cB (nx (par st)))) (.ret (.normal, cA (nx (par st))))) .fail
    | _ => .fail
  | false => .fail
theorem loopSF_ok (hE : EnvOK P E) {call : CallF} (hc : CallOK P E.G call) {b : C2} {id : Nat} {σ : Type} {cA cB : σ → St} {sh fin : σ → Bool} {nx : σ → σ} {par : St → σ} (hok : ∀ w0 F, b.ok P E w0 F ro nt) (hkl : keysLt s.sp.nxt s.sp.bs = true) (hlt : s.sp.nxt < s.sp.lim) (hG : E.G ≤ s.sp.nxt) (hro : ro s.sp.nxt = none) (hrou : ∀ id b, ro id = some b → b.under s.sp.nxt = true)
    (hcn : ∀ x, CanonS s (bif sh x then cB x else cA x)) (hpar : ∀ st, okSt s.sp st = true → tmpV st.tmps s.tc = .nils → encS s st = cA (par st) ∧ sh (par st) = false) {R : σ → σ → Prop} {μ : σ → Nat} (hfin : ∀ x, fin x = true → R x (nx x))
    (step : ∀ x r, R x r → (∃ x', roundS E ro call nt s b (bif sh x then cB x else cA x) = some (.normal, bif sh x' then cB x' else cA x') ∧ R x' r ∧ μ x' < μ x) ∨ roundS E ro call nt s b (bif sh x then cB x else cA x) = some (.exit id, bif sh r then cB r else cA r)) :
    ∀ w0 F, w0.nxt ≤ s.sp.nxt → HookOK P E w0 F ro nt (.block id (.loop b.erase)) (loopSF s par cA cB sh fin nx) := by
  intro w0 F h0 ρ st a w r hs h
  unfold loopSF at h
  split at h <;> try (cases h; done)
  rename_i hk
  simp only [Bool.and_eq_true] at hk
  obtain ⟨⟨hk, hn⟩, hl⟩ := hk
  have hn := Nat.eq_of_beq_eq_true hn
  have hl := Nat.eq_of_beq_eq_true hl
  split at h <;> try (cases h; done)
  rename_i hnil
  simp only [T.run] at h
  cases hf : fin (par st) with
  | false => rw [hf] at h; cases h
  | true =>
  rw [hf] at h
  simp only [cond_true] at h
  have h : r = (.normal, bif sh (nx (par st)) then cB (nx (par st)) else cA (nx (par st))) := by
    cases hsh : sh (nx (par st)) <;> rw [hsh] at h <;> simp only [cond_true, cond_false, Option.some.injEq] at h ⊢ <;> exact h.symm
  subst h
  obtain ⟨hp1, hp2⟩ := hpar st hk hnil
  have hs1 : SR w0 F E.G ro nt ρ (bif sh (par st) then cB (par st) else cA (par st)) a w := by
    rw [hp2, ← hp1]
    simp only [cond_false]
    have h1 := hs.enter hk hn hl
    have slv := tmpV_sound hs.tr s.tc
    unfold encS
    rw [hnil] at slv ⊢
    simp only
    refine ⟨h1.rel, fun t v hv => ?_, h1.dr, h1.nt⟩
    simp only [Tr.get_set] at hv
    split at hv
    · rename_i e; subst e
      injection hv with hv; subst hv
      exact slv
    · exact h1.tr t v hv
  have hfresh : ρ s.sp.nxt = none := hs.rel.fresh _ (by omega) (by omega)
  refine wp_mono (loopS_ok hE hc (b := b) (id := id) (cn := fun x => bif sh x then cB x else cA x) (R := fun x => R x (nx (par st))) (μ := μ) (D := fun st2 => st2 = bif sh (nx (par st)) then cB (nx (par st)) else cA (nx (par st))) hok ⟨hkl, hlt, hG, h0, hro, hrou⟩ hcn (fun x hR => ?_) (hfin _ hf) hs1) ?_
  · rcases step x _ hR with ⟨x', h1, h2, h3⟩ | h1
    · exact .inl ⟨x', h1, h2, h3⟩
    · exact .inr ⟨_, h1, rfl⟩
  · rintro e a' w' ⟨rfl, st2, ρ2, rfl, k1, k2⟩
    refine ⟨ρ2, fun i x hx => ?_, k2, rfl⟩
    by_cases e : i = s.sp.nxt
    · rw [e, hfresh] at hx; cases hx
    · rw [k1 i e]; exact hx
end
end Go.Proofs.YtmlfmkebljdoiaaGreatDoor
