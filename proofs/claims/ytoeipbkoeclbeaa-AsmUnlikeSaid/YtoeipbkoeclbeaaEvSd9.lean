/- Own text: that code on abstract values says what the model's code does. -/
import Derived.Test.YtoeipbkoeclbeaaEvSd8
import Derived.Tactics
import Derived.Scope
import Derived.LoopN
namespace Go.Ev

structure EnvOK (P : Program) (E : Env) : Prop where
  ty : TyOK P E.ti
  fn : ∀ f fn, E.fn f = some fn → P.funcs[f]? = some fn
  call : ∀ f fn, E.fn f = some fn → ∀ (args : Array Value) (w : World), (callFunc f args).run P w = .ok (.enter f args) w
  mixed : P.follows .mixedOrders = true

def DR (ρ : Ren) : List ADef → List Deferred → Prop
  | [], l => l = []
  | d :: ds, l => ∃ c as r, l = { target := .fn d.fn ⟨c⟩, args := ⟨as⟩ } :: r ∧ VRs ρ d.cap c ∧ VRs ρ d.args as ∧ DR ρ ds r
theorem DR.mono {ρ ρ' : Ren} (h : ρ.le ρ') : ∀ {ds : List ADef} {l : List Deferred}, DR ρ ds l → DR ρ' ds l
  | [], _, h' => h'
  | _ :: _, _, ⟨c, as, r, h1, h2, h3, h4⟩ => ⟨c, as, r, h1, VRs.mono h _ _ h2, VRs.mono h _ _ h3, DR.mono h h4⟩

/-- The state of a function that runs. -/
structure SR (w0 : Base) (F : Nat → Prop) (G : Nat) (ro : RO) (nt : Nat) (ρ : Ren) (st : St) (a : Act) (w : World) : Prop where
  rel : Rel w0 F G ro ρ st.hp w
  tr : TR ρ st.tmps a.tmps
  dr : DR ρ st.dfr a.defers
  nt : nt = a.tmps.size
/-- How a call may end. -/
def EndR (w0 : Base) (F : Nat → Prop) (G : Nat) (ro : RO) (ρ : Ren) (r : AEnd × Hp) (e : Ending) (w : World) : Prop :=
  ∃ ρ', ρ.le ρ' ∧ Rel w0 F G ro ρ' r.2 w ∧ match r.1 with
    | .ret v => ∃ x, e = .returned x ∧ VR ρ' v x
    | .pan v => ∃ x, e = .panicked [{ v := x, recovered := false }] ∧ VR ρ' v x
def CallOK (P : Program) (G : Nat) (call : CallF) : Prop := ∀ ro f args hp r, (call ro f args hp).run = some r → ∀ (w0 : Base) (F : Nat → Prop) (ρ : Ren) (w : World) (l : List Value), Rel w0 F G ro ρ hp w → VRs ρ args l →
  (∀ w, (callFunc f ⟨l⟩).run P w = .ok (.enter f ⟨l⟩) w) ∧ Calls P f ⟨l⟩ w (EndR w0 F G ro ρ r)
def XR (ρ : Ren) : X → Exit → Prop
  | .normal, e => e = .normal
  | .exit id, e => e = .exit id
  | .ret, e => e = .ret
  | .pan v, e => ∃ x, e = .panic [{ v := x, recovered := false }] ∧ VR ρ v x
def PX (w0 : Base) (F : Nat → Prop) (G : Nat) (ro : RO) (nt : Nat) (ρ : Ren) (r : X × St) : Exit → Act → World → Prop := fun e a w => ∃ ρ', ρ.le ρ' ∧ SR w0 F G ro nt ρ' r.2 a w ∧ XR ρ' r.1 e

section
variable {P : Program} {E : Env} {ρ : Ren} {w0 : Base} {w : World} {F : Nat → Prop} {ro : RO} {st : St} {a : Act} {nt : Nat} {ops : Array Oper}
theorem PX.mono {ρ ρ' : Ren} (h : ρ.le ρ') {r : X × St} {e : Exit} {a : Act} {w : World} (hp : PX w0 F E.G ro nt ρ' r e a w) : PX w0 F E.G ro nt ρ r e a w :=
  let ⟨ρ2, h1, h2⟩ := hp; ⟨ρ2, h.trans h1, h2⟩
theorem tmpBool_sound {tmps : Tr V} {d : Tmp} {want b : Bool} (ht : TR ρ tmps a.tmps) (h : tmpBool tmps d want = some b) : ∃ c, a.tmps[d]? = some (.bool c) ∧ b = (some c == some want) := by
  unfold tmpBool at h
  split at h <;> try contradiction
  rename_i c hc
  injection h with h
  have := ht d _ hc
  simp only [VR] at this
  refine ⟨c, ?_, ?_⟩
  · rw [Array.getD_eq_getD_getElem?] at this
    cases hg : a.tmps[d]? with
    | none => rw [hg] at this; cases this
    | some x => rw [hg] at this; simpa using this
  · rw [← h]; cases c <;> cases want <;> rfl
theorem guardD_sound {o : Oper} {b : Bool} (ht : TR ρ st.tmps a.tmps) (h : guardD nt ops.toList st.tmps o = some b) : dstOk nt o.dst = true ∧ Region.wanted o (yielded ops a.tmps) = b := by
  unfold guardD at h
  split at h <;> try contradiction
  rename_i hd
  refine ⟨hd, ?_⟩
  unfold guardV at h
  unfold Region.wanted
  cases hg : o.guard with
  | none => rw [hg] at h; injection h with h
  | some jw =>
    obtain ⟨j, want⟩ := jw
    rw [hg] at h
    simp only at h
    split at h <;> try contradiction
    rename_i oj hoj
    split at h <;> try contradiction
    rename_i d hdj
    obtain ⟨c, h1, h2⟩ := tmpBool_sound ht h
    have hoj' : ops[j]? = some oj := by simpa using hoj
    simp only [yielded, hoj', Option.bind_some, hdj, h1]
    exact h2.symm
theorem conc_sound {ol : List Oper} {i : Nat} {v v' : V} {x : Value} (h : (conc ol i v).run = some v') (hv : VR ρ v x) : VR ρ v' x := by
  cases v
  case sbool b =>
    simp only [conc] at h
    split at h
    · have e : v' = .bool b := by cases b <;> (simp only [T.run, cond_false, cond_true, Option.some.injEq] at h; exact h.symm)
      subst e; exact hv
    · injection h with h; subst h; exact hv
  all_goals (injection h with h; subst h; exact hv)
theorem putV_sound {ol : List Oper} {i : Nat} {o : Oper} {v : V} {x : Value} {hp : Hp} {r : Option V × St} {ρ' : Ren} {w' : World} (hs : SR w0 F E.G ro nt ρ st a w) (hle : ρ.le ρ') (hr : Rel w0 F E.G ro ρ' hp w') (hv : VR ρ' v x) (hd : dstOk nt o.dst = true)
    (h : (putV ol i o st v hp).run = some r) : r.1 = none ∧ SR w0 F E.G ro nt ρ' r.2 (a.put o.dst x) w' := by
  obtain ⟨v', h1, h2⟩ := T.run_bind_some h
  injection h2 with h2; subst h2
  have hv' := conc_sound h1 hv
  refine ⟨rfl, hr, TR.put (TR.mono hle hs.tr) o.dst hv' hd hs.nt, ?_, ?_⟩
  · cases o.dst <;> exact DR.mono hle hs.dr
  · rw [size_put]; exact hs.nt
theorem put_any (hs : SR w0 F E.G ro nt ρ st a w) {ρ' : Ren} (hle : ρ.le ρ') {hp : Hp} {w' : World} (hr : Rel w0 F E.G ro ρ' hp w') {dst : Option Tmp} (hd : dstOk nt dst = true) (x : Value) : SR w0 F E.G ro nt ρ' ⟨setT st.tmps dst .any, st.dfr, hp⟩ (a.put dst x) w' :=
  ⟨hr, TR.put (TR.mono hle hs.tr) dst (v := .any) trivial hd hs.nt, by cases dst <;> exact DR.mono hle hs.dr, by rw [size_put]; exact hs.nt⟩
/-- One operation of a list. -/
theorem step1_sound (hE : EnvOK P E) {call : CallF} (hc : CallOK P E.G call) {i : Nat} {o : Oper} {r : Option V × St} (hs : SR w0 F E.G ro nt ρ st a w) (h : (step1 E ro call nt ops.toList i o st).run = some r)
    {K : Act → World → Prop} {Q : Exit → Act → World → Prop}
    (hK : r.1 = none → ∀ ρ' a' w', ρ.le ρ' → SR w0 F E.G ro nt ρ' r.2 a' w' → K a' w')
    (hQ : ∀ v, r.1 = some v → ∀ ρ' x a' w', ρ.le ρ' → SR w0 F E.G ro nt ρ' r.2 a' w' → VR ρ' v x → Q (.panic [{ v := x, recovered := false }]) a' w') :
    if Region.wanted o (yielded ops a.tmps) then o.wp P a w K Q ∨ (o.asks P a w ∧ LetsOut Q) else K (a.put o.dst undef) w := by
  unfold step1 at h
  split at h
  · cases h
  · rename_i hg
    obtain ⟨hd, hw⟩ := guardD_sound hs.tr hg
    rw [hw]
    injection h with h; subst h
    exact hK rfl ρ _ _ (Ren.le.refl _) (put_any hs (Ren.le.refl _) hs.rel hd _)
  · rename_i hg
    obtain ⟨hd, hw⟩ := guardD_sound hs.tr hg
    rw [hw]
    refine .inl ?_
    obtain ⟨res, h1, h2⟩ := T.run_bind_some h
    have hres := evOp_sound (P := P) hE.ty hs.rel hs.tr hs.rel.glob h1
    unfold Oper.wp
    cases res with
    | val v hp' =>
      obtain ⟨x, w', ρ', e1, e2, e3, e4⟩ := hres
      rw [e1]
      obtain ⟨g1, g2⟩ := putV_sound hs e2 e4 e3 hd h2
      exact hK g1 ρ' _ _ e2 g2
    | skip hp' =>
      obtain ⟨w', ρ', e1, e2, e3⟩ := hres
      rw [e1]
      injection h2 with h2; subst h2
      exact hK rfl ρ' _ _ e2 (put_any hs e2 e3 hd _)
    | enter f args =>
      obtain ⟨l, e1, e2⟩ := hres
      obtain ⟨q, h3, h4⟩ := T.run_bind_some h2
      obtain ⟨g1, g2⟩ := hc _ _ _ _ _ h3 w0 F ρ w l hs.rel e2
      rw [e1, g1 w]
      refine g2.mono fun e w' he => ?_
      obtain ⟨ρ', k1, k2, k3⟩ := he
      obtain ⟨en, hp'⟩ := q
      cases en with
      | ret v =>
        obtain ⟨x, rfl, hx⟩ := k3
        obtain ⟨m1, m2⟩ := putV_sound hs k1 k2 hx hd h4
        exact hK m1 ρ' _ _ k1 m2
      | pan v =>
        obtain ⟨x, rfl, hx⟩ := k3
        injection h4 with h4; subst h4
        exact hQ v rfl ρ' x _ _ k1 ⟨k2, TR.mono k1 hs.tr, DR.mono k1 hs.dr, hs.nt⟩ hx
    | defer fn cap args =>
      obtain ⟨c, l, e1, e2, e3⟩ := hres
      rw [e1]
      injection h2 with h2; subst h2
      refine hK rfl ρ _ _ (Ren.le.refl _) ⟨hs.rel, TR.put (a := { a with defers := _ :: a.defers }) hs.tr o.dst (v := .any) trivial hd hs.nt, ?_, ?_⟩
      · have : DR ρ (⟨fn, cap, args⟩ :: st.dfr) ({ target := .fn fn ⟨c⟩, args := ⟨l⟩ } :: a.defers) := ⟨c, l, _, rfl, e2, e3, hs.dr⟩
        cases o.dst <;> exact this
      · rw [size_put]; exact hs.nt
    | pan v => exact hres.elim
theorem evOps_sound (hE : EnvOK P E) {call : CallF} (hc : CallOK P E.G call) : ∀ (l : List Oper) (i : Nat) (ρ : Ren) (st : St) (a : Act) (w : World) (r : X × St) (Q : Exit → Act → World → Prop), SR w0 F E.G ro nt ρ st a w → (evOps E ro call nt ops.toList i l st).run = some r →
    (∀ e a w, PX w0 F E.G ro nt ρ r e a w → Q e a w) → wpList P ops Q l a w
  | [], i, ρ, st, a, w, r, Q, hs, h, hQ => by
    injection h with h; subst h
    exact hQ _ _ _ ⟨ρ, Ren.le.refl _, hs, rfl⟩
  | o :: l, i, ρ, st, a, w, r, Q, hs, h, hQ => by
    obtain ⟨q, h1, h2⟩ := T.run_bind_some h
    refine step1_sound (ops := ops) hE hc hs h1 (fun hq ρ' a' w' hle hs' => ?_) (fun v hq ρ' x a' w' hle hs' hx => ?_)
    · rw [hq] at h2
      exact evOps_sound hE hc l (i + 1) ρ' _ a' w' r Q hs' h2 fun e a w hp => hQ e a w (PX.mono hle hp)
    · rw [hq] at h2
      injection h2 with h2; subst h2
      exact hQ _ _ _ ⟨ρ', hle, hs', x, rfl, hx⟩
/-! ### code -/
/-- What is asked of a region whose order is open. -/
def DrawOK (P : Program) (E : Env) (call : CallF) : Prop := ∀ (w0 : Base) (F : Nat → Prop) (ro : RO) (nt : Nat) (ρ : Ren) (id : Nat) (ops : Array Oper) (st : St) (a : Act) (w : World) (r : X × St), SR w0 F E.G ro nt ρ st a w → (evDraw E ro call nt ops st).run = some r →
  (Code.region id ops true).wp P (PX w0 F E.G ro nt ρ r) a w
theorem thenC_some {f : St → T (X × St)} {q r : X × St} (h : (thenC f q).run = some r) : (q.1 = .normal ∧ (f q.2).run = some r) ∨ (q.1 ≠ .normal ∧ r = q) := by
  obtain ⟨x, st⟩ := q
  cases x
  · exact .inl ⟨rfl, h⟩
  all_goals (injection h with h; subst h; exact .inr ⟨by simp, rfl⟩)
theorem known_sound {c : Operand} {b : Bool} (hs : SR w0 F E.G ro nt ρ st a w) (hb : a.eval c = .bool b) : SR w0 F E.G ro nt ρ (st.known c b) a w := by
  refine ⟨hs.rel, ?_, hs.dr, hs.nt⟩
  unfold St.known setKnown
  cases c with
  | tmp t =>
    intro u v hv
    simp only [Tr.get_set] at hv
    split at hv
    · rename_i e; subst e; injection hv with hv; subst hv; exact hb
    · exact hs.tr u v hv
  | _ => exact hs.tr
theorem evC_sound (hE : EnvOK P E) {call : CallF} (hc : CallOK P E.G call) (hd : DrawOK P E call) : ∀ (n : Nat) (c : Code) (ρ : Ren) (st : St) (a : Act) (w : World) (r : X × St) (Q : Exit → Act → World → Prop), SR w0 F E.G ro nt ρ st a w → (evC E ro call nt n c st).run = some r →
    (∀ e a w, PX w0 F E.G ro nt ρ r e a w → Q e a w) → c.wp P Q a w
  | 0, _, _, _, _, _, _, _, _, h, _ => by cases h
  | n + 1, c, ρ, st, a, w, r, Q, hs, h, hQ => by
    have same : ∀ (x : X) (e : Exit), XR ρ x e → r = (x, st) → Q e a w := fun x e hx hr => hQ _ _ _ ⟨ρ, Ren.le.refl _, by rw [hr]; exact hs, by rw [hr]; exact hx⟩
    have seqs : ∀ (b : Code) (q : X × St) (f : St → T (X × St)) (Q' : Exit → Act → World → Prop), (thenC f q).run = some r → (∀ ρ' st' a' w', SR w0 F E.G ro nt ρ' st' a' w' → ρ.le ρ' → (f st').run = some r → Q' .normal a' w') → (∀ e a w, e ≠ .normal → Q e a w → Q' e a w) →
        ∀ e a w, PX w0 F E.G ro nt ρ q e a w → Q' e a w := by
      intro b q f Q' hq hN hO e a w hp
      rcases thenC_some hq with ⟨h1, h2⟩ | ⟨h1, h2⟩
      · obtain ⟨ρ', g1, g2, g3⟩ := hp
        rw [h1] at g3
        simp only [XR] at g3; subst g3
        exact hN ρ' _ _ _ g2 g1 h2
      · subst h2
        refine hO e a w ?_ (hQ e a w hp)
        obtain ⟨ρ', g1, g2, g3⟩ := hp
        intro he; subst he
        obtain ⟨x, st'⟩ := r
        cases x <;> simp only [XR] at g3 h1
        · exact h1 rfl
        · cases g3
        · cases g3
        · obtain ⟨x, e, _⟩ := g3; cases e
    unfold evC at h
    split at h
    · injection h with h; exact wp_skip (same .normal .normal rfl h.symm)
    · injection h with h; exact wp_label (same .normal .normal rfl h.symm)
    · injection h with h; exact wp_exit (same (.exit _) _ rfl h.symm)
    · injection h with h; exact wp_ret (same .ret _ rfl h.symm)
    · rename_i id ops draw
      unfold regC at h
      split at h
      · exact wp_region_list (evOps_sound hE hc _ _ ρ st a w r Q hs h hQ)
      · exact wp_mono (hd w0 F ro nt ρ id ops st a w r hs h) hQ
    · rename_i x y
      obtain ⟨q, h1, h2⟩ := T.run_bind_some h
      refine wp_seq (evC_sound hE hc hd n x ρ st a w q _ hs h1 ?_)
      refine seqs y q _ _ h2 (fun ρ' st' a' w' hs' hle hf => ?_) (fun e a w he hq => ?_)
      · exact evC_sound hE hc hd n y ρ' st' a' w' r Q hs' hf fun e a w hp => hQ e a w (PX.mono hle hp)
      · cases e <;> first | exact hq | exact absurd rfl he
    · rename_i c x y
      unfold condC at h
      split at h
      · rename_i hv
        have hb : a.eval c = .bool true := opV_sound hs.tr hs.rel.glob hv
        exact wp_cond_true hb (evC_sound hE hc hd n x ρ st a w r Q hs h hQ)
      · rename_i hv
        have hb : a.eval c = .bool false := opV_sound hs.tr hs.rel.glob hv
        exact wp_cond_false hb (evC_sound hE hc hd n y ρ st a w r Q hs h hQ)
      · rename_i t hv
        have hb : a.eval c = .bool t := opV_sound hs.tr hs.rel.glob hv
        cases t
        · simp only [T.run, cond_false] at h
          exact wp_cond_false hb (evC_sound hE hc hd n y ρ _ a w r Q (known_sound hs hb) h hQ)
        · simp only [T.run, cond_true] at h
          exact wp_cond_true hb (evC_sound hE hc hd n x ρ _ a w r Q (known_sound hs hb) h hQ)
      · cases h
    · rename_i id b
      obtain ⟨q, h1, h2⟩ := T.run_bind_some h
      refine wp_block (evC_sound hE hc hd n b ρ st a w q _ hs h1 ?_)
      intro e a w ⟨ρ', g1, g2, g3⟩
      obtain ⟨x, st'⟩ := q
      unfold leaveBlock at h2
      cases x <;> simp only at h2
      · injection h2 with h2; subst h2
        simp only [XR] at g3; subst g3
        exact hQ _ _ _ ⟨ρ', g1, g2, rfl⟩
      · rename_i id'
        simp only [XR] at g3; subst g3
        split at h2
        · rename_i he
          have he := Nat.eq_of_beq_eq_true he
          injection h2 with h2; subst h2
          simp only [Exit.inBlock, he, if_true]
          exact hQ _ _ _ ⟨ρ', g1, g2, rfl⟩
        · rename_i he
          injection h2 with h2; subst h2
          have he : ¬ id' = id := fun e => by subst e; simp at he
          simp only [Exit.inBlock, he, if_false]
          exact hQ _ _ _ ⟨ρ', g1, g2, rfl⟩
      · injection h2 with h2; subst h2
        simp only [XR] at g3; subst g3
        exact hQ _ _ _ ⟨ρ', g1, g2, rfl⟩
      · injection h2 with h2; subst h2
        obtain ⟨x, rfl, hx⟩ := g3
        exact hQ _ _ _ ⟨ρ', g1, g2, x, rfl, hx⟩
    · rename_i b
      refine wp_scope_straight (evC_sound hE hc hd n b ρ st a w r _ hs h ?_)
      intro e a w hp
      have := hQ e a w hp
      obtain ⟨ρ', g1, g2, g3⟩ := hp
      cases e <;> first | exact this | skip
      obtain ⟨x, st'⟩ := r
      cases x <;> simp only [XR, reduceCtorEq, false_and, exists_false] at g3
    · rename_i b
      have loop : ∀ m, m ≤ n + 1 → ∀ (ρ : Ren) (st : St) (a : Act) (w : World) (Q : Exit → Act → World → Prop), SR w0 F E.G ro nt ρ st a w → (evC E ro call nt m (.loop b) st).run = some r →
          (∀ e a w, PX w0 F E.G ro nt ρ r e a w → Q e a w) → Code.rounds P b Q m a w := by
        intro m
        induction m with
        | zero => intro _ ρ st a w Q _ h _; cases h
        | succ m ih =>
          intro hm ρ st a w Q hs h hQ
          obtain ⟨q, h1, h2⟩ := T.run_bind_some h
          refine evC_sound hE hc hd m b ρ st a w q _ hs h1 fun e a w hp => ?_
          rcases thenC_some h2 with ⟨g1, g2⟩ | ⟨g1, g2⟩
          · obtain ⟨ρ', k1, k2, k3⟩ := hp
            rw [g1] at k3
            simp only [XR] at k3; subst k3
            exact ih (by omega) ρ' _ a w Q k2 g2 fun e a w hp => hQ e a w (PX.mono k1 hp)
          · subst g2
            have hq := hQ e a w hp
            obtain ⟨ρ', k1, k2, k3⟩ := hp
            cases e <;> first | exact hq | skip
            obtain ⟨x, st'⟩ := r
            cases x <;> simp only [XR, reduceCtorEq, false_and, exists_false] at k3
            exact absurd rfl g1
      exact wp_loop_rounds (n + 1) (loop (n + 1) (Nat.le_refl _) ρ st a w Q hs (by unfold evC; exact h) hQ)
    · cases h
termination_by n => n
decreasing_by all_goals omega
end
end Go.Ev
