/- Own text: code of which some parts are not run but told. -/
import Derived.Test.YtoeipbkoeclbeaaEvSe3
namespace Go.Ev
inductive C2 where
  | code (c : Code)
  | seq (a b : C2)
  | cond (c : Operand) (a b : C2)
  | block (id : Nat) (b : C2)
  | loop (b : C2)
  | hook (c : Code) (f : St → T (X × St))
def C2.erase : C2 → Code
  | .code c => c
  | .seq a b => .seq a.erase b.erase
  | .cond c a b => .cond c a.erase b.erase
  | .block id b => .block id b.erase
  | .loop b => .loop b.erase
  | .hook c _ => c
def evC2 (E : Env) (ro : RO) (call : CallF) (nt : Nat) : Nat → C2 → St → T (X × St)
  | 0, _, _ => .fail
  | n + 1, c, st => match c with
    | .code c => evC E ro call nt n c st
    | .seq a b => (evC2 E ro call nt n a st).bind (thenC (evC2 E ro call nt n b))
    | .cond c a b => condC st c (opV E.G st.tmps c) (evC2 E ro call nt n a) (evC2 E ro call nt n b)
    | .block id b => (evC2 E ro call nt n b st).bind (leaveBlock id)
    | .loop b => (evC2 E ro call nt n b st).bind (thenC (evC2 E ro call nt n (.loop b)))
    | .hook _ f => f st
section
variable {P : Program} {E : Env} {ρ : Ren} {w0 : Base} {w : World} {F : Nat → Prop} {ro : RO} {st : St} {a : Act} {nt : Nat} {ops : Array Oper}
/-- What is asked of a part that is told. -/
def HookOK (P : Program) (E : Env) (w0 : Base) (F : Nat → Prop) (ro : RO) (nt : Nat) (c : Code) (f : St → T (X × St)) : Prop := ∀ (ρ : Ren) (st : St) (a : Act) (w : World) (r : X × St), SR w0 F E.G ro nt ρ st a w → (f st).run = some r → c.wp P (PX w0 F E.G ro nt ρ r) a w
def C2.ok (P : Program) (E : Env) (w0 : Base) (F : Nat → Prop) (ro : RO) (nt : Nat) : C2 → Prop
  | .code _ => True
  | .seq a b => a.ok P E w0 F ro nt ∧ b.ok P E w0 F ro nt
  | .cond _ a b => a.ok P E w0 F ro nt ∧ b.ok P E w0 F ro nt
  | .block _ b => b.ok P E w0 F ro nt
  | .loop b => b.ok P E w0 F ro nt
  | .hook c f => HookOK P E w0 F ro nt c f
theorem evC2_sound (hE : EnvOK P E) {call : CallF} (hc : CallOK P E.G call) : ∀ (n : Nat) (c : C2) (ρ : Ren) (st : St) (a : Act) (w : World) (r : X × St) (Q : Exit → Act → World → Prop), c.ok P E w0 F ro nt → SR w0 F E.G ro nt ρ st a w → (evC2 E ro call nt n c st).run = some r →
    (∀ e a w, PX w0 F E.G ro nt ρ r e a w → Q e a w) → c.erase.wp P Q a w
  | 0, _, _, _, _, _, _, _, _, _, h, _ => by cases h
  | n + 1, c, ρ, st, a, w, r, Q, hok, hs, h, hQ => by
    have seqs : ∀ (q : X × St) (f : St → T (X × St)) (Q' : Exit → Act → World → Prop), (thenC f q).run = some r → (∀ ρ' st' a' w', SR w0 F E.G ro nt ρ' st' a' w' → ρ.le ρ' → (f st').run = some r → Q' .normal a' w') → (∀ e a w, e ≠ .normal → Q e a w → Q' e a w) →
        ∀ e a w, PX w0 F E.G ro nt ρ q e a w → Q' e a w := by
      intro q f Q' hq hN hO e a w hp
      rcases thenC_some hq with ⟨h1, h2⟩ | ⟨h1, h2⟩
      · obtain ⟨ρ', g1, g2, g3⟩ := hp
        rw [h1] at g3
        simp only [XR] at g3; subst g3
        exact hN ρ' _ _ _ g2 g1 h2
      · subst h2
        refine hO e a w ?_ (hQ e a w hp)
        obtain ⟨ρ', g1, g2, g3⟩ := hp
        intro he; subst he
        obtain ⟨x, st'⟩ := r
        cases x <;> simp only [XR] at g3 h1
        · exact h1 rfl
        · cases g3
        · cases g3
        · obtain ⟨x, e, _⟩ := g3; cases e
    unfold evC2 at h
    split at h
    · exact evC_sound hE hc (evDraw_sound hE hc) n _ ρ st a w r Q hs h hQ
    · rename_i x y
      obtain ⟨q, h1, h2⟩ := T.run_bind_some h
      refine wp_seq (evC2_sound hE hc n x ρ st a w q _ hok.1 hs h1 ?_)
      refine seqs q _ _ h2 (fun ρ' st' a' w' hs' hle hf => ?_) (fun e a w he hq => ?_)
      · exact evC2_sound hE hc n y ρ' st' a' w' r Q hok.2 hs' hf fun e a w hp => hQ e a w (PX.mono hle hp)
      · cases e <;> first | exact hq | exact absurd rfl he
    · rename_i c x y
      unfold condC at h
      split at h
      · rename_i hv
        have hb : a.eval c = .bool true := opV_sound hs.tr hs.rel.glob hv
        exact wp_cond_true hb (evC2_sound hE hc n x ρ st a w r Q hok.1 hs h hQ)
      · rename_i hv
        have hb : a.eval c = .bool false := opV_sound hs.tr hs.rel.glob hv
        exact wp_cond_false hb (evC2_sound hE hc n y ρ st a w r Q hok.2 hs h hQ)
      · rename_i t hv
        have hb : a.eval c = .bool t := opV_sound hs.tr hs.rel.glob hv
        cases t
        · simp only [T.run, cond_false] at h
          exact wp_cond_false hb (evC2_sound hE hc n y ρ _ a w r Q hok.2 (known_sound hs hb) h hQ)
        · simp only [T.run, cond_true] at h
          exact wp_cond_true hb (evC2_sound hE hc n x ρ _ a w r Q hok.1 (known_sound hs hb) h hQ)
      · cases h
    · rename_i id b
      obtain ⟨q, h1, h2⟩ := T.run_bind_some h
      refine wp_block (evC2_sound hE hc n b ρ st a w q _ hok hs h1 ?_)
      intro e a w ⟨ρ', g1, g2, g3⟩
      obtain ⟨x, st'⟩ := q
      unfold leaveBlock at h2
      cases x <;> simp only at h2
      · injection h2 with h2; subst h2
        simp only [XR] at g3; subst g3
        exact hQ _ _ _ ⟨ρ', g1, g2, rfl⟩
      · rename_i id'
        simp only [XR] at g3; subst g3
        split at h2
        · rename_i he
          have he := Nat.eq_of_beq_eq_true he
          injection h2 with h2; subst h2
          simp only [Exit.inBlock, he, if_true]
          exact hQ _ _ _ ⟨ρ', g1, g2, rfl⟩
        · rename_i he
          injection h2 with h2; subst h2
          have he : ¬ id' = id := fun e => by subst e; simp at he
          simp only [Exit.inBlock, he, if_false]
          exact hQ _ _ _ ⟨ρ', g1, g2, rfl⟩
      · injection h2 with h2; subst h2
        simp only [XR] at g3; subst g3
        exact hQ _ _ _ ⟨ρ', g1, g2, rfl⟩
      · injection h2 with h2; subst h2
        obtain ⟨x, rfl, hx⟩ := g3
        exact hQ _ _ _ ⟨ρ', g1, g2, x, rfl, hx⟩
    · rename_i b
      have loop : ∀ m, m ≤ n + 1 → ∀ (ρ : Ren) (st : St) (a : Act) (w : World) (Q : Exit → Act → World → Prop), SR w0 F E.G ro nt ρ st a w → (evC2 E ro call nt m (.loop b) st).run = some r →
          (∀ e a w, PX w0 F E.G ro nt ρ r e a w → Q e a w) → Code.rounds P b.erase Q m a w := by
        intro m
        induction m with
        | zero => intro _ ρ st a w Q _ h _; cases h
        | succ m ih =>
          intro hm ρ st a w Q hs h hQ
          obtain ⟨q, h1, h2⟩ := T.run_bind_some h
          refine evC2_sound hE hc m b ρ st a w q _ hok hs h1 fun e a w hp => ?_
          rcases thenC_some h2 with ⟨g1, g2⟩ | ⟨g1, g2⟩
          · obtain ⟨ρ', k1, k2, k3⟩ := hp
            rw [g1] at k3
            simp only [XR] at k3; subst k3
            exact ih (by omega) ρ' _ a w Q k2 g2 fun e a w hp => hQ e a w (PX.mono k1 hp)
          · subst g2
            have hq := hQ e a w hp
            obtain ⟨ρ', k1, k2, k3⟩ := hp
            cases e <;> first | exact hq | skip
            obtain ⟨x, st'⟩ := r
            cases x <;> simp only [XR, reduceCtorEq, false_and, exists_false] at k3
            exact absurd rfl g1
      exact wp_loop_rounds (n + 1) (loop (n + 1) (Nat.le_refl _) ρ st a w Q hs (by unfold evC2; exact h) hQ)
    · rename_i c f
      exact wp_mono (hok ρ st a w r hs h) hQ
termination_by n => n
decreasing_by all_goals omega
/-- A function whose body is told so. -/
def bodyF2 (E : Env) (N : Nat) (call : CallF) (ro : RO) (fn : Func) (c : C2) (args : List V) (hp : Hp) : T (AEnd × Hp) := match Nat.ble args.length fn.ntmps with
  | true => (evC2 E ro call fn.ntmps N c ⟨tmpsOf .lf 0 args, [], hp⟩).bind (endF E ro fn)
  | false => .fail
theorem bodyF2_sound (hE : EnvOK P E) {call : CallF} (hc : CallOK P E.G call) {f N : Nat} {fn : Func} {c : C2} {args : List V} {hp : Hp} {r : AEnd × Hp} {l : List Value} (hf : P.funcs[f]? = some fn) (hbody : fn.body = some c.erase) (hok : c.ok P E w0 F ro fn.ntmps)
    (h : (bodyF2 E N call ro fn c args hp).run = some r) (hr : Rel w0 F E.G ro ρ hp w) (hl : VRs ρ args l) : Calls P f ⟨l⟩ w (EndR w0 F E.G ro ρ r) := by
  unfold bodyF2 at h
  split at h <;> try (cases h; done)
  rename_i hn
  have hn := Nat.le_of_ble_eq_true hn
  obtain ⟨q, h1, h2⟩ := T.run_bind_some h
  have hll := hl.length
  have hs : SR w0 F E.G ro fn.ntmps ρ ⟨tmpsOf .lf 0 args, [], hp⟩ { tmps := (⟨l⟩ : Array Value) ++ Array.replicate (fn.ntmps - (⟨l⟩ : Array Value).size) undef, defers := [] } w := by
    refine ⟨hr, tmpsOf_sound hl (fun t v hv => by cases hv) (fun k hk => ?_), rfl, ?_⟩
    · rw [Nat.zero_add, Array.getElem?_append_left (by simpa using hk)]
      simp
    · simp; omega
  refine calls_of_wp hf hbody (evC2_sound hE hc N c ρ _ _ w q _ hok hs h1 ?_)
  intro e a w' hp
  exact endF_sound hE hp h2
end
end Go.Ev
