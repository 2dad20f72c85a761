/- Own text: the evaluator: EvSe2, EvSe3, EvSe4, EvSe5, EvSe6. -/
import Derived.Test.YtlmacdfbdhpljaaGreatDoorEvD
/- Own text: tables of types and functions. -/
namespace Go.Ev
def Tr.All {α : Type} (p : Nat → α → Prop) : Tr α → (Nat → Nat) → Prop
  | .lf, _ => True
  | .nd v l r, num => (match v with
    | some x => p (num 0) x
    | none => True) ∧ l.All p (fun k => num (2 * k + 1)) ∧ r.All p (fun k => num (2 * k + 2))
theorem Tr.All.get {α : Type} {p : Nat → α → Prop} : ∀ {t : Tr α} {num : Nat → Nat}, t.All p num → ∀ {k : Nat} {x : α}, t.get k = some x → p (num k) x
  | .lf, _, _, _, _, h => by cases h
  | .nd v l r, num, ⟨h1, h2, h3⟩, k, x, h => by
    simp only [Tr.get, beq0, beq1] at h
    by_cases h0 : k = 0
    · subst h0
      simp only [decide_true] at h
      subst h
      exact h1
    · by_cases hp : k % 2 = 1
      · simp only [h0, hp, decide_true, decide_false] at h
        have := Tr.All.get h2 h
        rw [show 2 * (k / 2) + 1 = k by omega] at this
        exact this
      · simp only [h0, hp, decide_false] at h
        have := Tr.All.get h3 h
        rw [show 2 * (k / 2 - 1) + 2 = k by omega] at this
        exact this
def TyFact (P : Program) (t : Nat) (i : TI) : Prop := P.underlying t = some i.und ∧ (∃ f, P.info? t = some f ∧ f.size = i.size ∧ f.bytes = i.bytes ∧ f.zero = i.zero) ∧
  ((∃ fs, i.und = .struct fs) → (i.egt = false → P.eqGuardType P.depth t = false) ∧ (i.stood = false → P.stoodInHeld t = false))
def FnFact (P : Program) (f : Nat) (fn : Func) : Prop := P.funcs[f]? = some fn ∧ ∀ (args : Array Value) (w : World), (callFunc f args).run P w = .ok (.enter f args) w
theorem envOK_of {P : Program} {tys : Tr TI} {fns : Tr Func} {G : Nat} {sm : Nat → Option Summ} {cls : Nat → Cls} (h1 : tys.All (TyFact P) id) (h2 : fns.All (FnFact P) id) (h3 : P.follows .mixedOrders = true) :
    EnvOK P { ti := fun t => tys.get t, G, fn := fun f => fns.get f, sm, cls } where
  ty := ⟨fun _ _ h => (h1.get h).1, fun _ _ h => (h1.get h).2.1, fun _ _ fs h hs he => ((h1.get h).2.2 ⟨fs, hs⟩).1 he, fun _ _ fs h hs he => ((h1.get h).2.2 ⟨fs, hs⟩).2 he⟩
  fn := fun _ _ h => (h2.get h).1
  call := fun _ _ h => (h2.get h).2
  mixed := h3
theorem evF_ok {P : Program} {E : Env} (hE : EnvOK P E) (hS : SumOK P E) (N n : Nat) : CallOK P E.G (evF E N n) :=
  evF_sound hE hS (fun _ hc => evDraw_sound hE hc) N n
theorem sumOK_none {P : Program} {E : Env} (h : ∀ f, E.sm f = none) : SumOK P E := fun f s hs => by rw [h f] at hs; cases hs
end Go.Ev

/- Own text: a function whose results are known as a table, without places. -/
namespace Go.Ev
def startHp (G L : Nat) : Hp := ⟨.lf, G, L⟩
def noRO : RO := fun _ => none
section
variable {P : Program} {E : Env} {G : Nat} {ρ : Ren} {w0 : Base} {w : World} {F : Nat → Prop} {ro : RO} {hp : Hp}
/-- A run that knows of no memory. -/
theorem Rel.start (hg : GR ρ G) (L : Nat) : Rel ⟨w, ⟨fun id => if id < G then ρ id else none, fun _ => none⟩, G⟩ (fun _ => False) G noRO ⟨fun id => if id < G then ρ id else none, fun _ => none⟩ (startHp G L) w := by
  refine ⟨fun id b h => (by cases h), fun i j b c B t t' h _ _ _ => (by cases h), fun id b h => (by cases h), fun id h1 h2 => ?_, fun _ _ _ => rfl, Nat.le_refl _, rfl, rfl, rfl, fun g hlt => ?_, fun id x h => .inl h, Nat.le_refl _, fun B l h => (by cases h), fun id b B t h _ => (by cases h), fun B l h => (by cases h)⟩
  · have h1 : G ≤ id := h1
    show (if id < G then ρ id else none) = none
    rw [if_neg (by omega)]
  · obtain ⟨t, ht⟩ := hg g hlt
    exact ⟨t, by show (if g < G then ρ g else none) = _; rw [if_pos hlt]; exact ht⟩
/-- After such a run what was known is known. -/
theorem Rel.pure (hr : Rel w0 F G ro ρ hp w) {ρ1 ρ' : Ren} {hp' : Hp} {w' : World} {n G' : Nat} {ro' : RO} (h' : Rel ⟨w, ρ1, n⟩ (fun _ => False) G' ro' ρ' hp' w') : Rel w0 F G ro ρ hp w' := by
  refine ⟨fun id b h => ?_, hr.inj, hr.sep, hr.fresh, fun B hB hF => ?_, Nat.le_trans hr.size h'.size, h'.tape.trans hr.tape, h'.os.trans hr.os, h'.output.trans hr.output, hr.glob, hr.ren, hr.le0, fun B l hl => ?_, hr.fz.sep, hr.fz.new⟩
  rotate_left 2
  · obtain ⟨t, fz, q⟩ := hr.fz.keep B l hl
    exact ⟨t, fz, by rw [h'.frame B (lt_of_heap q) (fun h => h)]; exact q⟩
  · obtain ⟨B, t, o, h1, h2, h3, h4⟩ := hr.blk id b h
    have := h'.frame B (lt_of_heap h2) (fun h => h)
    exact ⟨B, t, o, h1, by rw [this]; exact h2, h3, h4⟩
  · rw [h'.frame B (Nat.lt_of_lt_of_le hB hr.size) (fun h => h)]
    exact hr.frame B hB hF
theorem pureCall {call : CallF} (hc : CallOK P G call) {f L : Nat} {args : List V} {v : V} {hp' : Hp} (h : (call noRO f args (startHp G L)).run = some (.ret v, hp')) (hu : V.under 0 v = true) (ha : unders 0 args = true)
    {l : List Value} (hr : Rel w0 F G ro ρ hp w) (hl : VRs ρ args l) : (∀ w, (callFunc f ⟨l⟩).run P w = .ok (.enter f ⟨l⟩) w) ∧ Calls P f ⟨l⟩ w (EndR w0 F G ro ρ (.ret v, hp)) := by
  obtain ⟨g1, g2⟩ := hc _ _ _ _ _ h _ _ _ w l (Rel.start hr.glob L) (unders_mono (n := 0) (fun id x _ h => by omega) args l ha hl)
  refine ⟨g1, g2.mono fun e w' ⟨ρ', k1, k2, x, k3, k4⟩ => ⟨ρ, Ren.le.refl _, hr.pure k2, x, k3, under_mono (n := 0) (fun id x _ h => by omega) v x hu k4⟩⟩
/-- The table as a summary. -/
def tabSum (tbl : List V → Option V) : Summ := fun _ hp args => match tbl args with
  | some v => .ret (.ret v, hp)
  | none => .fail
/-- What the table says is so. -/
def TabOK (call : CallF) (G L f : Nat) (tbl : List V → Option V) : Prop := ∀ args v, tbl args = some v → ∃ args', (∀ (ρ : Ren) l, VRs ρ args l → VRs ρ args' l) ∧ unders 0 args' = true ∧ V.under 0 v = true ∧ ∃ hp', (call noRO f args' (startHp G L)).run = some (.ret v, hp')
theorem tabSum_sound {call : CallF} (hc : CallOK P G call) {f L : Nat} {tbl : List V → Option V} (ht : TabOK call G L f tbl) {args : List V} {r : AEnd × Hp} (h : (tabSum tbl ro hp args).run = some r)
    {l : List Value} (hr : Rel w0 F G ro ρ hp w) (hl : VRs ρ args l) : (∀ w, (callFunc f ⟨l⟩).run P w = .ok (.enter f ⟨l⟩) w) ∧ Calls P f ⟨l⟩ w (EndR w0 F G ro ρ r) := by
  unfold tabSum at h
  split at h <;> try (cases h; done)
  rename_i v hv
  injection h with h; subst h
  obtain ⟨args', h1, h2, h3, hp', h4⟩ := ht args v hv
  exact pureCall hc h4 h3 h2 hr (h1 ρ l hl)
end
/-! ### is it this value -/
def iEq (a b : I) : Bool := ieq a.n b.n && ieq a.lo b.lo && ieq a.hi b.hi
theorem iEq_sound {a b : I} (h : iEq a b = true) : a = b := by
  simp only [iEq, Bool.and_eq_true, ieq_iff] at h
  cases a; cases b; simp_all
def isEq : List I → List I → Bool
  | [], [] => true
  | a :: as, b :: bs => iEq a b && isEq as bs
  | _, _ => false
theorem isEq_sound : ∀ {a b : List I}, isEq a b = true → a = b
  | [], [], _ => rfl
  | [], _ :: _, h => by cases h
  | _ :: _, [], h => by cases h
  | a :: as, b :: bs, h => by
    simp only [isEq, Bool.and_eq_true] at h
    rw [iEq_sound h.1, isEq_sound h.2]
mutual
def vEq : V → V → Bool
  | .bool a, .bool b => a == b
  | .int k a, .int l b => decide (k = l) && iEq a b
  | .str a, .str b => isEq a b
  | .agg a, .agg b => vsEq a b
  | .tup a, .tup b => vsEq a b
  | _, _ => false
def vsEq : List V → List V → Bool
  | [], [] => true
  | a :: as, b :: bs => vEq a b && vsEq as bs
  | _, _ => false
end
mutual
theorem vEq_sound : ∀ (a b : V), vEq a b = true → a = b
  | .bool a, b, h => by cases b <;> simp [vEq] at h; rw [h]
  | .int k a, b, h => by
    cases b <;> simp only [vEq, Bool.and_eq_true, decide_eq_true_eq, Bool.false_eq_true] at h
    rw [h.1, iEq_sound h.2]
  | .str a, b, h => by
    cases b <;> simp only [vEq, Bool.false_eq_true] at h
    rw [isEq_sound h]
  | .agg a, b, h => by
    cases b <;> simp only [vEq, Bool.false_eq_true] at h
    rw [vsEq_sound a _ h]
  | .tup a, b, h => by
    cases b <;> simp only [vEq, Bool.false_eq_true] at h
    rw [vsEq_sound a _ h]
  | .any, b, h => by cases b <;> simp [vEq] at h
  | .sbool _, b, h => by cases b <;> simp [vEq] at h
  | .ssym _, b, h => by cases b <;> simp [vEq] at h
  | .nilp, b, h => by cases b <;> simp [vEq] at h
  | .ptr _ _, b, h => by cases b <;> simp [vEq] at h
  | .nils, b, h => by cases b <;> simp [vEq] at h
  | .slice .., b, h => by cases b <;> simp [vEq] at h
  | .nilm, b, h => by cases b <;> simp [vEq] at h
  | .map _, b, h => by cases b <;> simp [vEq] at h
  | .func .., b, h => by cases b <;> simp [vEq] at h
  | .nilf, b, h => by cases b <;> simp [vEq] at h
  | .iface .., b, h => by cases b <;> simp [vEq] at h
  | .nili, b, h => by cases b <;> simp [vEq] at h
  | .deep _, b, h => by cases b <;> simp [vEq] at h
  | .wptr .., b, h => by cases b <;> simp [vEq] at h
  | .wsl .., b, h => by cases b <;> simp [vEq] at h
theorem vsEq_sound : ∀ (a b : List V), vsEq a b = true → a = b
  | [], [], _ => rfl
  | [], _ :: _, h => by simp [vsEq] at h
  | _ :: _, [], h => by simp [vsEq] at h
  | a :: as, b :: bs, h => by
    simp only [vsEq, Bool.and_eq_true] at h
    rw [vEq_sound a b h.1, vsEq_sound as bs h.2]
end
/-- A run that returns this value, without places. -/
def retIs (v : V) : Option (AEnd × Hp) → Bool
  | some r => match r.1 with
    | .ret u => vEq u v && V.under 0 u
    | .pan _ => false
  | none => false
theorem retIs_sound {v : V} {o : Option (AEnd × Hp)} (h : retIs v o = true) : V.under 0 v = true ∧ ∃ hp', o = some (.ret v, hp') := by
  unfold retIs at h
  split at h <;> try (cases h; done)
  rename_i r
  obtain ⟨e, hp'⟩ := r
  cases e <;> simp only [Bool.and_eq_true, Bool.false_eq_true] at h
  have := vEq_sound _ _ h.1
  subst this
  exact ⟨h.2, hp', rfl⟩
def allN (p : Nat → Bool) : Nat → Nat → Bool
  | 0, _ => true
  | n + 1, k => p k && allN p n (k + 1)
theorem allN_get {p : Nat → Bool} : ∀ {n k : Nat}, allN p n k = true → ∀ i, i < n → p (k + i) = true
  | 0, _, _, i, h => by omega
  | n + 1, k, h, 0, _ => by simp only [allN, Bool.and_eq_true] at h; exact h.1
  | n + 1, k, h, i + 1, hi => by
    simp only [allN, Bool.and_eq_true] at h
    have := allN_get h.2 i (by omega)
    rw [show k + (i + 1) = k + 1 + i by omega]; exact this
end Go.Ev

/- Own text: code of which some parts are not run but told. -/
namespace Go.Ev
inductive C2 where
  | code (c : Code)
  | seq (a b : C2)
  | cond (c : Operand) (a b : C2)
  | block (id : Nat) (b : C2)
  | loop (b : C2)
  | scope (b : C2)
  | hook (c : Code) (f : St → T (X × St))
def C2.erase : C2 → Code
  | .code c => c
  | .seq a b => .seq a.erase b.erase
  | .cond c a b => .cond c a.erase b.erase
  | .block id b => .block id b.erase
  | .loop b => .loop b.erase
  | .scope b => .scope b.erase
  | .hook c _ => c
def evC2 (E : Env) (ro : RO) (call : CallF) (nt : Nat) : Nat → C2 → St → T (X × St)
  | 0, _, _ => .fail
  | n + 1, c, st => match c with
    | .code c => evC E ro call nt n c st
    | .seq a b => (evC2 E ro call nt n a st).bind (thenC (evC2 E ro call nt n b))
    | .cond c a b => condC st c (opV E.G st.tmps c) (evC2 E ro call nt n a) (evC2 E ro call nt n b)
    | .block id b => (evC2 E ro call nt n b st).bind (leaveBlock id)
    | .loop b => (evC2 E ro call nt n b st).bind (thenC (evC2 E ro call nt n (.loop b)))
    | .scope b => evC2 E ro call nt n b st
    | .hook _ f => f st
section
variable {P : Program} {E : Env} {ρ : Ren} {w0 : Base} {w : World} {F : Nat → Prop} {ro : RO} {st : St} {a : Act} {nt : Nat} {ops : Array Oper}
/-- What is asked of a part that is told. -/
def HookOK (P : Program) (E : Env) (w0 : Base) (F : Nat → Prop) (ro : RO) (nt : Nat) (c : Code) (f : St → T (X × St)) : Prop := ∀ (ρ : Ren) (st : St) (a : Act) (w : World) (r : X × St), SR w0 F E.G ro nt ρ st a w → (f st).run = some r → c.wp P (PX w0 F E.G ro nt ρ r) a w
def C2.ok (P : Program) (E : Env) (w0 : Base) (F : Nat → Prop) (ro : RO) (nt : Nat) : C2 → Prop
  | .code _ => True
  | .seq a b => a.ok P E w0 F ro nt ∧ b.ok P E w0 F ro nt
  | .cond _ a b => a.ok P E w0 F ro nt ∧ b.ok P E w0 F ro nt
  | .block _ b => b.ok P E w0 F ro nt
  | .loop b => b.ok P E w0 F ro nt
  | .scope b => b.ok P E w0 F ro nt
  | .hook c f => HookOK P E w0 F ro nt c f
theorem evC2_sound (hE : EnvOK P E) {call : CallF} (hc : CallOK P E.G call) : ∀ (n : Nat) (c : C2) (ρ : Ren) (st : St) (a : Act) (w : World) (r : X × St) (Q : Exit → Act → World → Prop), c.ok P E w0 F ro nt → SR w0 F E.G ro nt ρ st a w → (evC2 E ro call nt n c st).run = some r →
    (∀ e a w, PX w0 F E.G ro nt ρ r e a w → Q e a w) → c.erase.wp P Q a w
  | 0, _, _, _, _, _, _, _, _, _, h, _ => by cases h
  | n + 1, c, ρ, st, a, w, r, Q, hok, hs, h, hQ => by
    have seqs : ∀ (q : X × St) (f : St → T (X × St)) (Q' : Exit → Act → World → Prop), (thenC f q).run = some r → (∀ ρ' st' a' w', SR w0 F E.G ro nt ρ' st' a' w' → ρ.le ρ' → (f st').run = some r → Q' .normal a' w') → (∀ e a w, e ≠ .normal → Q e a w → Q' e a w) →
        ∀ e a w, PX w0 F E.G ro nt ρ q e a w → Q' e a w := by
      intro q f Q' hq hN hO e a w hp
      rcases thenC_some hq with ⟨h1, h2⟩ | ⟨h1, h2⟩
      · obtain ⟨ρ', g1, g2, g3⟩ := hp
        rw [h1] at g3
        simp only [XR] at g3; subst g3
        exact hN ρ' _ _ _ g2 g1 h2
      · subst h2
        refine hO e a w ?_ (hQ e a w hp)
        obtain ⟨ρ', g1, g2, g3⟩ := hp
        intro he; subst he
        obtain ⟨x, st'⟩ := r
        cases x <;> simp only [XR] at g3 h1
        · exact h1 rfl
        · cases g3
        · cases g3
        · obtain ⟨x, e, _⟩ := g3; cases e
    unfold evC2 at h
    split at h
    · exact evC_sound hE hc (evDraw_sound hE hc) n _ ρ st a w r Q hs h hQ
    · rename_i x y
      obtain ⟨q, h1, h2⟩ := T.run_bind_some h
      refine wp_seq (evC2_sound hE hc n x ρ st a w q _ hok.1 hs h1 ?_)
      refine seqs q _ _ h2 (fun ρ' st' a' w' hs' hle hf => ?_) (fun e a w he hq => ?_)
      · exact evC2_sound hE hc n y ρ' st' a' w' r Q hok.2 hs' hf fun e a w hp => hQ e a w (PX.mono hle hp)
      · cases e <;> first | exact hq | exact absurd rfl he
    · rename_i c x y
      unfold condC at h
      split at h
      · rename_i hv
        have hb : a.eval c = .bool true := opV_sound hs.tr hs.rel.glob hv
        exact wp_cond_true hb (evC2_sound hE hc n x ρ st a w r Q hok.1 hs h hQ)
      · rename_i hv
        have hb : a.eval c = .bool false := opV_sound hs.tr hs.rel.glob hv
        exact wp_cond_false hb (evC2_sound hE hc n y ρ st a w r Q hok.2 hs h hQ)
      · rename_i t hv
        have hb : a.eval c = .bool t := opV_sound hs.tr hs.rel.glob hv
        cases t
        · simp only [T.run, cond_false] at h
          exact wp_cond_false hb (evC2_sound hE hc n y ρ _ a w r Q hok.2 (known_sound hs hb) h hQ)
        · simp only [T.run, cond_true] at h
          exact wp_cond_true hb (evC2_sound hE hc n x ρ _ a w r Q hok.1 (known_sound hs hb) h hQ)
      · cases h
    · rename_i id b
      obtain ⟨q, h1, h2⟩ := T.run_bind_some h
      refine wp_block (evC2_sound hE hc n b ρ st a w q _ hok hs h1 ?_)
      intro e a w ⟨ρ', g1, g2, g3⟩
      obtain ⟨x, st'⟩ := q
      unfold leaveBlock at h2
      cases x <;> simp only at h2
      · injection h2 with h2; subst h2
        simp only [XR] at g3; subst g3
        exact hQ _ _ _ ⟨ρ', g1, g2, rfl⟩
      · rename_i id'
        simp only [XR] at g3; subst g3
        split at h2
        · rename_i he
          have he := Nat.eq_of_beq_eq_true he
          injection h2 with h2; subst h2
          simp only [Exit.inBlock, he, if_true]
          exact hQ _ _ _ ⟨ρ', g1, g2, rfl⟩
        · rename_i he
          injection h2 with h2; subst h2
          have he : ¬ id' = id := fun e => by subst e; simp at he
          simp only [Exit.inBlock, he, if_false]
          exact hQ _ _ _ ⟨ρ', g1, g2, rfl⟩
      · injection h2 with h2; subst h2
        simp only [XR] at g3; subst g3
        exact hQ _ _ _ ⟨ρ', g1, g2, rfl⟩
      · injection h2 with h2; subst h2
        obtain ⟨x, rfl, hx⟩ := g3
        exact hQ _ _ _ ⟨ρ', g1, g2, x, rfl, hx⟩
    · rename_i b
      have loop : ∀ m, m ≤ n + 1 → ∀ (ρ : Ren) (st : St) (a : Act) (w : World) (Q : Exit → Act → World → Prop), SR w0 F E.G ro nt ρ st a w → (evC2 E ro call nt m (.loop b) st).run = some r →
          (∀ e a w, PX w0 F E.G ro nt ρ r e a w → Q e a w) → Code.rounds P b.erase Q m a w := by
        intro m
        induction m with
        | zero => intro _ ρ st a w Q _ h _; cases h
        | succ m ih =>
          intro hm ρ st a w Q hs h hQ
          obtain ⟨q, h1, h2⟩ := T.run_bind_some h
          refine evC2_sound hE hc m b ρ st a w q _ hok hs h1 fun e a w hp => ?_
          rcases thenC_some h2 with ⟨g1, g2⟩ | ⟨g1, g2⟩
          · obtain ⟨ρ', k1, k2, k3⟩ := hp
            rw [g1] at k3
            simp only [XR] at k3; subst k3
            exact ih (by omega) ρ' _ a w Q k2 g2 fun e a w hp => hQ e a w (PX.mono k1 hp)
          · subst g2
            have hq := hQ e a w hp
            obtain ⟨ρ', k1, k2, k3⟩ := hp
            cases e <;> first | exact hq | skip
            obtain ⟨x, st'⟩ := r
            cases x <;> simp only [XR, reduceCtorEq, false_and, exists_false] at k3
            exact absurd rfl g1
      exact wp_loop_rounds (n + 1) (loop (n + 1) (Nat.le_refl _) ρ st a w Q hs (by unfold evC2; exact h) hQ)
    · rename_i b
      refine wp_scope_straight (evC2_sound hE hc n b ρ st a w r _ hok hs h ?_)
      intro e a w hp
      have := hQ e a w hp
      obtain ⟨ρ', g1, g2, g3⟩ := hp
      cases e <;> first | exact this | skip
      obtain ⟨x, st'⟩ := r
      cases x <;> simp only [XR, reduceCtorEq, false_and, exists_false] at g3
    · rename_i c f
      exact wp_mono (hok ρ st a w r hs h) hQ
termination_by n => n
decreasing_by all_goals omega
/-- A function whose body is told so. -/
def bodyF2 (E : Env) (N : Nat) (call : CallF) (ro : RO) (fn : Func) (c : C2) (args : List V) (hp : Hp) : T (AEnd × Hp) := match Nat.ble args.length fn.ntmps with
  | true => (evC2 E ro call fn.ntmps N c ⟨tmpsOf .lf 0 args, [], hp⟩).bind (endF E ro fn)
  | false => .fail
theorem bodyF2_sound (hE : EnvOK P E) {call : CallF} (hc : CallOK P E.G call) {f N : Nat} {fn : Func} {c : C2} {args : List V} {hp : Hp} {r : AEnd × Hp} {l : List Value} (hf : P.funcs[f]? = some fn) (hbody : fn.body = some c.erase) (hok : c.ok P E w0 F ro fn.ntmps)
    (h : (bodyF2 E N call ro fn c args hp).run = some r) (hr : Rel w0 F E.G ro ρ hp w) (hl : VRs ρ args l) : Calls P f ⟨l⟩ w (EndR w0 F E.G ro ρ r) := by
  unfold bodyF2 at h
  split at h <;> try (cases h; done)
  rename_i hn
  have hn := Nat.le_of_ble_eq_true hn
  obtain ⟨q, h1, h2⟩ := T.run_bind_some h
  have hll := hl.length
  have hs : SR w0 F E.G ro fn.ntmps ρ ⟨tmpsOf .lf 0 args, [], hp⟩ { tmps := (⟨l⟩ : Array Value) ++ Array.replicate (fn.ntmps - (⟨l⟩ : Array Value).size) undef, defers := [] } w := by
    refine ⟨hr, tmpsOf_sound hl (fun t v hv => by cases hv) (fun k hk => ?_), rfl, ?_⟩
    · rw [Nat.zero_add, Array.getElem?_append_left (by simpa using hk)]
      simp
    · simp; omega
  refine calls_of_wp hf hbody (evC2_sound hE hc N c ρ _ _ w q _ hok hs h1 ?_)
  intro e a w' hp
  exact endF_sound hE hp h2
end
end Go.Ev

/- Own text: a function whose results are not looked at, but for their bounds. -/
namespace Go.Ev
/-- All leaves of a decision tree. -/
def T.all {α : Type} (p : α → Bool) : T α → Bool
  | .ret a => p a
  | .fail => false
  | .br _ a b => T.all p a && T.all p b
theorem T.all_run {α : Type} {p : α → Bool} : ∀ {t : T α}, T.all p t = true → ∃ a, t.run = some a ∧ p a = true
  | .ret a, h => ⟨a, rfl, h⟩
  | .br c a b, h => by
    simp only [T.all, Bool.and_eq_true] at h
    cases c
    · obtain ⟨x, h1, h2⟩ := T.all_run h.2
      exact ⟨x, by simpa [T.run] using h1, h2⟩
    · obtain ⟨x, h1, h2⟩ := T.all_run h.1
      exact ⟨x, by simpa [T.run] using h1, h2⟩
def kb (k : IntKind) (n : Int) : V := .int k ⟨n, kmin k, kmax k⟩
def isK (k : IntKind) : V → Bool
  | .int l i => decide (k = l) && ile (kmin k) i.lo && ile i.hi (kmax k)
  | _ => false
def areK : List IntKind → List V → Bool
  | [], [] => true
  | k :: ks, v :: vs => isK k v && areK ks vs
  | _, _ => false
/-- Does it return numbers of these kinds? -/
def retK (ks : List IntKind) (r : AEnd × Hp) : Bool := match r.1 with
  | .ret v => match ks with
    | [k] => isK k v
    | _ => match v with
      | .tup vs => areK ks vs
      | _ => false
  | .pan _ => false
def nOf : V → Int
  | .int _ i => i.n
  | _ => 0
def tupOf : V → List V
  | .tup vs => vs
  | _ => []
def retV (o : Option (AEnd × Hp)) : V := match o with
  | some r => match r.1 with
    | .ret v => v
    | .pan _ => .any
  | none => .any
/-- The results, of which the bounds alone are told. -/
def outs (o : Option (AEnd × Hp)) : List IntKind → Nat → List V
  | [], _ => []
  | k :: ks, i => kb k (nOf ((tupOf (retV o)).getD i .any)) :: outs o ks (i + 1)
def outK (ks : List IntKind) (o : Option (AEnd × Hp)) : V := match ks with
  | [k] => kb k (nOf (retV o))
  | _ => .tup (outs o ks 0)
theorem isK_sound {k : IntKind} {v : V} {x : Value} {ρ ρ' : Ren} (h : isK k v = true) (hv : VR ρ v x) : VR ρ' (kb k (nOf v)) x := by
  unfold isK at h
  split at h <;> try (cases h; done)
  simp only [Bool.and_eq_true, decide_eq_true_eq, ile_iff] at h
  obtain ⟨⟨rfl, h1⟩, h2⟩ := h
  obtain ⟨n, rfl, hn⟩ := hv
  exact ⟨n, rfl, hn.1, by have := hn.2; simp only; omega, by have := hn.2; simp only; omega⟩
theorem outs_sound {o : Option (AEnd × Hp)} {ρ ρ' : Ren} : ∀ {ks : List IntKind} {vs pre : List V} {l : List Value}, tupOf (retV o) = pre ++ vs → areK ks vs = true → VRs ρ vs l → VRs ρ' (outs o ks pre.length) l
  | [], [], pre, l, _, _, hv => hv
  | [], _ :: _, _, _, _, h, _ => by cases h
  | _ :: _, [], _, _, _, h, _ => by cases h
  | k :: ks, v :: vs, pre, l, ho, h, ⟨x, xs, h1, h2, h3⟩ => by
    simp only [areK, Bool.and_eq_true] at h
    subst h1
    have e : (tupOf (retV o)).getD pre.length .any = v := by rw [ho]; simp [List.getD_eq_getElem?_getD]
    refine ⟨x, xs, rfl, ?_, ?_⟩
    · rw [e]; exact isK_sound h.1 h2
    · have := outs_sound (ρ' := ρ') (pre := pre ++ [v]) (ks := ks) (by rw [ho]; simp) h.2 h3
      simpa using this
theorem outK_sound {ks : List IntKind} {v : V} {hp' : Hp} {x : Value} {ρ ρ' : Ren} (h : retK ks (.ret v, hp') = true) (hv : VR ρ v x) : VR ρ' (outK ks (some (.ret v, hp'))) x := by
  unfold retK at h
  unfold outK
  simp only at h
  split at h
  · exact isK_sound h hv
  · split at h <;> try (cases h; done)
    rename_i hne vs
    obtain ⟨l, rfl, hl⟩ := hv
    have hs := outs_sound (ρ' := ρ') (o := some (.ret (.tup vs), hp')) (pre := []) rfl h hl
    exact ⟨l, rfl, hs⟩
/-- What an argument is to be: a number of a kind, known and at most so great; or any number of a kind. -/
inductive ASpec where
  | lit (k : IntKind) (max : Nat)
  | any (k : IntKind)
def norm1 : ASpec → V → Option V
  | .lit k max, .int l i => match litI i with
    | some m => match decide (k = l) && Nat.ble m max with
      | true => some (.int k (I.lit m))
      | false => none
    | none => none
  | .any k, v => match isK k v with
    | true => some (kb k (nOf v))
    | false => none
  | _, _ => none
def normA : List ASpec → List V → Option (List V)
  | [], [] => some []
  | s :: ss, v :: vs => match norm1 s v with
    | some u => match normA ss vs with
      | some us => some (u :: us)
      | none => none
    | none => none
  | _, _ => none
/-- Such arguments. -/
def Normal : List ASpec → List V → Prop
  | [], l => l = []
  | .lit k max :: ss, l => ∃ m us, m ≤ max ∧ l = .int k (I.lit (m : Nat)) :: us ∧ Normal ss us
  | .any k :: ss, l => ∃ n us, l = kb k n :: us ∧ Normal ss us
theorem norm1_VR {s : ASpec} {v u : V} {x : Value} {ρ : Ren} (h : norm1 s v = some u) (hv : VR ρ v x) : VR ρ u x := by
  unfold norm1 at h
  split at h
  · rename_i k max l i
    split at h <;> try contradiction
    rename_i m hm
    split at h <;> try contradiction
    rename_i hc
    simp only [Bool.and_eq_true, decide_eq_true_eq] at hc
    injection h with h; subst h
    obtain ⟨n, rfl, hn⟩ := hv
    rw [litI_int hm hn, hc.1]
    exact ⟨_, rfl, IR.lit _⟩
  · split at h <;> try contradiction
    rename_i hk
    injection h with h; subst h
    exact isK_sound hk hv
  · contradiction
theorem normA_VR {ρ : Ren} : ∀ {ss : List ASpec} {vs us : List V} {l : List Value}, normA ss vs = some us → VRs ρ vs l → VRs ρ us l
  | [], [], us, l, h, hv => by injection h with h; subst h; exact hv
  | [], _ :: _, _, _, h, _ => by cases h
  | _ :: _, [], _, _, h, _ => by cases h
  | s :: ss, v :: vs, us, l, h, ⟨x, xs, h1, h2, h3⟩ => by
    unfold normA at h
    split at h <;> try contradiction
    rename_i u hu
    split at h <;> try contradiction
    rename_i us' hus
    injection h with h; subst h
    exact ⟨x, xs, h1, norm1_VR hu h2, normA_VR hus h3⟩
theorem normA_normal : ∀ {ss : List ASpec} {vs us : List V}, normA ss vs = some us → Normal ss us
  | [], [], us, h => by injection h with h; exact h.symm
  | [], _ :: _, _, h => by cases h
  | _ :: _, [], _, h => by cases h
  | s :: ss, v :: vs, us, h => by
    unfold normA at h
    split at h <;> try contradiction
    rename_i u hu
    split at h <;> try contradiction
    rename_i us' hus
    injection h with h; subst h
    have ih := normA_normal hus
    unfold norm1 at hu
    split at hu
    · split at hu <;> try contradiction
      split at hu <;> try contradiction
      rename_i hc
      simp only [Bool.and_eq_true] at hc
      injection hu with hu; subst hu
      exact ⟨_, us', Nat.le_of_ble_eq_true hc.2, rfl, ih⟩
    · split at hu <;> try contradiction
      injection hu with hu; subst hu
      exact ⟨_, us', rfl, ih⟩
    · contradiction
theorem normal_under : ∀ {ss : List ASpec} {us : List V}, Normal ss us → unders 0 us = true
  | [], us, h => by simp only [Normal] at h; subst h; rfl
  | .lit _ _ :: ss, us, ⟨m, r, _, h, h2⟩ => by subst h; simp only [unders, V.under, Bool.true_and, normal_under h2]
  | .any _ :: ss, us, ⟨n, r, h, h2⟩ => by subst h; simp only [unders, kb, V.under, Bool.true_and, normal_under h2]
/-- The summary of a function of numbers, whose results are not looked at. -/
def opqSum (call : CallF) (G L f : Nat) (spec : List ASpec) (ks : List IntKind) : Summ := fun _ hp args => match normA spec args with
  | some us => .ret (.ret (outK ks (call noRO f us (startHp G L)).run), hp)
  | none => .fail
theorem opqSum_sound {P : Program} {G : Nat} {call : CallF} (hc : CallOK P G call) {f L : Nat} {spec : List ASpec} {ks : List IntKind} (H : ∀ us, Normal spec us → T.all (retK ks) (call noRO f us (startHp G L)) = true)
    {ro : RO} {hp : Hp} {args : List V} {r : AEnd × Hp} (h : (opqSum call G L f spec ks ro hp args).run = some r) {w0 : Base} {F : Nat → Prop} {ρ : Ren} {w : World} {l : List Value} (hr : Rel w0 F G ro ρ hp w) (hl : VRs ρ args l) :
    (∀ w, (callFunc f ⟨l⟩).run P w = .ok (.enter f ⟨l⟩) w) ∧ Calls P f ⟨l⟩ w (EndR w0 F G ro ρ r) := by
  unfold opqSum at h
  split at h <;> try (cases h; done)
  rename_i us hus
  injection h with h; subst h
  have hn := normA_normal hus
  obtain ⟨⟨e, hp'⟩, h1, h2⟩ := T.all_run (H us hn)
  obtain ⟨g1, g2⟩ := hc _ _ _ _ _ h1 _ _ _ w l (Rel.start hr.glob L) (unders_mono (n := 0) (fun id x _ h => by omega) us l (normal_under hn) (normA_VR hus hl))
  refine ⟨g1, g2.mono fun en w' ⟨ρ', k1, k2, k3⟩ => ?_⟩
  cases e with
  | pan v => cases h2
  | ret v =>
    obtain ⟨x, hx, hv⟩ := k3
    refine ⟨ρ, Ren.le.refl _, hr.pure k2, x, hx, ?_⟩
    rw [h1]
    exact outK_sound h2 hv
end Go.Ev

/- Own text: a call that touches some blocks alone, under numbers of its own. -/
namespace Go.Ev
def Blk.under (n : Nat) : Blk → Bool
  | .cells cs => unders n cs
  | .vec cs => unders n cs
  | .map .. => false
  | .lastv .. => false
  | _ => true
theorem BR_under {ρ ρ' : Ren} {n tot : Nat} (h' : ∀ id x, ρ' id = some x → id < n → ρ id = some x) : ∀ (b : Blk) (o : Obj), b.under n = true → BR ρ' tot b o → BR ρ tot b o
  | .cells cs, _, hu, ⟨l, t, fz, h1, h2, h3⟩ => ⟨l, t, fz, h1, unders_mono h' cs l hu h2, h3⟩
  | .vec cs, _, hu, ⟨l, l', t, fz, h1, h2, h3⟩ => ⟨l, l', t, fz, h1, unders_mono h' cs l hu h2, h3⟩
  | .fn .., _, _, h => h
  | .ints .., _, _, h => h
  | .mem .., _, _, h => h
  | .seg .., _, _, h => h
  | .row .., _, _, h => h
  | .strs _, _, _, h => h
  | .map .., _, hu, _ => by cases hu
  | .siter .., _, _, h => h
  | .imap .., _, _, h => h
  | .win .., _, _, h => h
  | .lastv .., _, hu, _ => by cases hu
def rowT : Nat → List Blk → Tr Blk → Tr Blk
  | _, [], t => t
  | n, b :: r, t => (rowT (n + 1) r t).set n (some b)
theorem rowT_get : ∀ (l : List Blk) (n : Nat) (t : Tr Blk) (id : Nat), (rowT n l t).get id = if n ≤ id ∧ id - n < l.length then l[id - n]? else t.get id
  | [], n, t, id => by simp [rowT]
  | b :: r, n, t, id => by
    unfold rowT
    rw [Tr.get_set, rowT_get r (n + 1) t id]
    by_cases h : id = n
    · subst h; simp
    · rw [if_neg h]
      by_cases h2 : n + 1 ≤ id ∧ id - (n + 1) < r.length
      · rw [if_pos h2, if_pos (by simp; omega)]
        rw [show id - n = (id - (n + 1)) + 1 by omega, List.getElem?_cons_succ]
      · rw [if_neg h2, if_neg (by simp; omega)]
def renL (ρ : Ren) (G : Nat) (bs : List Nat) : Ren := ⟨fun id => if id < G then ρ id else match bs[id - G]? with
  | some b => ρ b
  | none => none, ρ.H⟩
def hpL (G lim : Nat) (bl : List Blk) : Hp := ⟨rowT G bl .lf, G + bl.length, lim⟩
def putL (hp : Hp) : List Nat → List Blk → Hp
  | b :: bs, c :: cs => (putL hp bs cs).put b (some c)
  | _, _ => hp
def look (id : Nat) : List Nat → List Blk → Option Blk
  | b :: bs, c :: cs => if id = b then some c else look id bs cs
  | _, _ => none
theorem putL_get {hp : Hp} {id : Nat} : ∀ {bs : List Nat} {cs : List Blk}, (putL hp bs cs).m.get id = match look id bs cs with
    | some c => some c
    | none => hp.m.get id
  | [], _ => by simp [putL, look]
  | _ :: _, [] => by simp [putL, look]
  | b :: bs, c :: cs => by
    unfold putL look
    simp only [Hp.put, Tr.get_set]
    by_cases e : id = b
    · rw [if_pos e, if_pos e]
    · rw [if_neg e, if_neg e, putL_get]
theorem putL_nxt {hp : Hp} : ∀ {bs : List Nat} {cs : List Blk}, (putL hp bs cs).nxt = hp.nxt ∧ (putL hp bs cs).lim = hp.lim
  | [], _ => by simp [putL]
  | _ :: _, [] => by simp [putL]
  | b :: bs, c :: cs => by
    unfold putL
    exact putL_nxt (bs := bs) (cs := cs)
theorem look_some {id : Nat} {c : Blk} : ∀ {bs : List Nat} {cs : List Blk}, look id bs cs = some c → ∃ i : Nat, bs[i]? = some id ∧ cs[i]? = some c
  | [], _, h => by simp [look] at h
  | _ :: _, [], h => by simp [look] at h
  | b :: bs, d :: cs, h => by
    unfold look at h
    split at h
    · rename_i e; subst e; exact ⟨0, by simp, by simpa using h⟩
    · obtain ⟨i, h1, h2⟩ := look_some h
      exact ⟨i + 1, by simpa using h1, by simpa using h2⟩
theorem look_none {id : Nat} : ∀ {bs : List Nat} {cs : List Blk}, bs.length = cs.length → look id bs cs = none → ∀ i : Nat, bs[i]? ≠ some id
  | [], _, _, _, i => by simp
  | _ :: _, [], h, _, _ => by simp at h
  | b :: bs, d :: cs, hl, h, i => by
    unfold look at h
    split at h
    · cases h
    · rename_i e
      cases i with
      | zero => simp; exact fun h => e h.symm
      | succ i => simpa using look_none (by simpa using hl) h i
section
variable {P : Program} {w0 : Base} {F : Nat → Prop} {G : Nat} {ro rv : RO} {ρ : Ren} {hp : Hp} {w : World} {bs : List Nat} {bl : List Blk}
def ownF (ρ : Ren) (bs : List Nat) (B : Nat) : Prop := ∃ (i b t : Nat), bs[i]? = some b ∧ ρ b = some (B, t)
def RoOK (G : Nat) (ro : RO) : Prop := ∀ id b, ro id = some b → id < G ∧ b.under G = true
def Lies (hp : Hp) (bs : List Nat) (bl : List Blk) : Prop := ∀ (i b : Nat), bs[i]? = some b → ∃ c d, hp.m.get b = some c ∧ bl[i]? = some d ∧ d.under 0 = true ∧ ∀ (ρ : Ren) tot o, BR ρ tot c o → BR ρ tot d o
theorem renL_lt {id : Nat} (h : id < G) : renL ρ G bs id = ρ id := by simp [renL, h]
theorem renL_own {i b : Nat} (h : bs[i]? = some b) : renL ρ G bs (G + i) = ρ b := by
  unfold renL
  simp only
  rw [if_neg (by omega), show G + i - G = i by omega, h]
theorem Rel.at_ro (hr : Rel w0 F G ro ρ hp w) {id : Nat} {b : Blk} (h : ro id = some b) : hp.at ro id = some b := by
  unfold Hp.at
  cases hg : hp.m.get id with
  | none => exact h
  | some c => rw [hr.sep id c hg] at h; cases h
theorem Rel.own (hr : Rel w0 F G ro ρ hp w) (hsub : ∀ id b, rv id = some b → ro id = some b) (hro : RoOK G rv) (hl : Lies hp bs bl) (hlen : bs.length = bl.length) (hnd : bs.Nodup) (lim : Nat) :
    Rel ⟨w, renL ρ G bs, G + bl.length⟩ (ownF ρ bs) G rv (renL ρ G bs) (hpL G lim bl) w := by
  -- what is known, and where it is known in the whole
  have key : ∀ id b, (hpL G lim bl).at rv id = some b → (∃ i c : Nat, id = G + i ∧ bs[i]? = some c ∧ bl[i]? = some b ∧ (hpL G lim bl).m.get id = some b) ∨ (id < G ∧ rv id = some b ∧ (hpL G lim bl).m.get id = none) := fun id b h => by
    rcases at_split h with h1 | ⟨h1, h2⟩
    · have h1' := h1
      simp only [hpL, rowT_get] at h1
      split at h1
      · rename_i hc
        obtain ⟨c1, c2⟩ := hc
        rw [← hlen] at c2
        obtain ⟨c, hcc⟩ : ∃ c, bs[id - G]? = some c := ⟨bs[id - G], by simp [c2]⟩
        exact .inl ⟨id - G, c, by omega, hcc, h1, h1'⟩
      · cases h1
    · exact .inr ⟨(hro id b h2).1, h2, h1⟩
  have ctx : ∀ id b, (hpL G lim bl).at rv id = some b → ∀ B t, renL ρ G bs id = some (B, t) → ∃ id' c, hp.at ro id' = some c ∧ ρ id' = some (B, t) ∧ ((id < G ∧ id' = id ∧ (∃ c, ro id = some c) ∧ (hpL G lim bl).m.get id = none) ∨ (∃ i : Nat, id = G + i ∧ bs[i]? = some id' ∧ ∃ d, hp.m.get id' = some d)) := fun id b h B t hB => by
    rcases key id b h with ⟨i, c, rfl, h1, h2, _⟩ | ⟨h1, h2, h3⟩
    · rw [renL_own h1] at hB
      obtain ⟨d, e, k1, k2, k3⟩ := hl i c h1
      exact ⟨c, d, at_get k1, hB, .inr ⟨i, rfl, h1, d, k1⟩⟩
    · rw [renL_lt h1] at hB
      exact ⟨id, b, hr.at_ro (hsub id b h2), hB, .inl ⟨h1, rfl, ⟨b, hsub id b h2⟩, h3⟩⟩
  refine ⟨fun id b h => ?_, fun id id' b b' B t t' h h' hB hB' => ?_, fun id b h => ?_, fun id h1 h2 => ?_, fun _ _ _ => rfl, Nat.le_refl _, rfl, rfl, rfl, fun g hg => ?_, fun id x h => .inl h, Nat.le_refl _, hr.fz.keep, fun id b B t h hB => ?_, fun B l h => .inl h⟩
  rotate_left 5
  · obtain ⟨id', c, _, h2, h3⟩ := ctx id b (at_get h) B t hB
    rcases h3 with ⟨_, _, _, h4⟩ | ⟨_, _, _, d, h4⟩
    · rw [h] at h4; cases h4
    · exact hr.fz.sep _ _ _ _ h4 h2
  · rcases key id b h with ⟨i, c, rfl, h1, h2, _⟩ | ⟨h1, h2, h3⟩
    · obtain ⟨d, e, k1, k2, k3, k4⟩ := hl i c h1
      rw [h2] at k2; injection k2 with k2; subst k2
      obtain ⟨B, t, o, g1, g2, g3, g4⟩ := hr.blk c d (at_get k1)
      exact ⟨B, t, o, by rw [renL_own h1]; exact g1, g2, BR_under (n := 0) (fun id x _ hlt => by omega) _ _ k3 (k4 _ _ _ g3), .inr (.inl ⟨i, c, t, h1, g1⟩)⟩
    · obtain ⟨B, t, o, g1, g2, g3, g4⟩ := hr.blk id b (hr.at_ro (hsub id b h2))
      exact ⟨B, t, o, by rw [renL_lt h1]; exact g1, g2, BR_under (n := G) (fun j x hj hlt => by rw [renL_lt hlt]; exact hj) _ _ (hro id b h2).2 g3, .inl h3⟩
  · obtain ⟨j, c, k1, k2, k3⟩ := ctx id b h B t hB
    obtain ⟨j', c', k1', k2', k3'⟩ := ctx id' b' h' B t' hB'
    rcases hr.inj _ _ _ _ _ _ _ k1 k1' k2 k2' with e | ⟨q1, q2⟩
    rotate_left
    · rcases k3 with ⟨a1, a2, a3, a4⟩ | ⟨i, a1, a2, d, a3⟩
      · rcases k3' with ⟨b1, b2, b3, b4⟩ | ⟨i', b1, b2, d', b3⟩
        · exact .inr ⟨a4, b4⟩
        · rw [q2] at b3; cases b3
      · rw [q1] at a3; cases a3
    left
    subst e
    rcases k3 with ⟨a1, a2, a3, _⟩ | ⟨i, a1, a2, d, a3⟩ <;> rcases k3' with ⟨b1, b2, b3, _⟩ | ⟨i', b1, b2, d', b3⟩
    · omega
    · obtain ⟨x, hx⟩ := a3
      rw [a2] at b3
      rw [hr.sep _ _ b3] at hx; cases hx
    · obtain ⟨x, hx⟩ := b3
      rw [b2] at a3
      rw [hr.sep _ _ a3] at hx; cases hx
    · have : i = i' := by
        rcases Nat.lt_or_ge i bs.length with hi | hi
        · exact (List.getElem?_inj hi hnd).1 (a2.trans b2.symm)
        · simp [List.getElem?_eq_none hi] at a2
      omega
  · simp only [hpL, rowT_get] at h
    split at h
    · rename_i hc
      cases hq : rv id with
      | none => rfl
      | some x => have := (hro id x hq).1; omega
    · cases h
  · simp only [hpL] at h1
    unfold renL
    simp only
    rw [if_neg (by omega), List.getElem?_eq_none (by omega)]
  · rw [renL_lt hg]; exact hr.glob g hg
/-- A call on blocks of its own: what it returns leads to no block. -/
theorem ownCall {call : CallF} (hc : CallOK P G call) {f lim : Nat} {args argsL : List V} {v : V} {hp' : Hp} {bl' : List Blk} (hrun : (call rv f argsL (hpL G lim bl)).run = some (.ret v, hp'))
    (hsub : ∀ id b, rv id = some b → ro id = some b) (hro : RoOK G rv) (hl : Lies hp bs bl) (hlen : bs.length = bl.length) (hlen' : bs.length = bl'.length) (hnd : bs.Nodup) (hv : v.under 0 = true)
    (hb' : ∀ (i : Nat) b, bl'[i]? = some b → b.under 0 = true ∧ ∃ c, hp'.m.get (G + i) = some c ∧ ∀ (ρ : Ren) tot o, BR ρ tot c o → BR ρ tot b o)
    {l : List Value} (hr : Rel w0 F G ro ρ hp w) (hvl : VRs ρ args l) (harg : VRs ρ args l → VRs (renL ρ G bs) argsL l) :
    (∀ w, (callFunc f ⟨l⟩).run P w = .ok (.enter f ⟨l⟩) w) ∧ Calls P f ⟨l⟩ w (EndR w0 F G ro ρ (.ret v, putL hp bs bl')) := by
  have hr1 := hr.own hsub hro hl hlen hnd lim
  obtain ⟨g1, g2⟩ := hc _ _ _ _ _ hrun _ _ _ w l hr1 (harg hvl)
  refine ⟨g1, g2.mono fun e w' ⟨ρ', k1, k2, x, k3, k4⟩ => ⟨ρ, Ren.le.refl _, ?_, x, k3, under_mono (n := 0) (fun id x _ h => by omega) v x hv k4⟩⟩
  have k2 : Rel ⟨w, renL ρ G bs, G + bl.length⟩ (ownF ρ bs) G rv ρ' hp' w' := k2
  have ownB : ∀ i b : Nat, bs[i]? = some b → ∃ c, hp.m.get b = some c := fun i b h => by
    obtain ⟨c, d, h1, _⟩ := hl i b h
    exact ⟨c, h1⟩
  have notOwn : ∀ id b B t, hp.at ro id = some b → ρ id = some (B, t) → (∀ i : Nat, bs[i]? ≠ some id) → ¬ ownF ρ bs B := fun id b B t h1 h2 h3 ⟨i, b', t', q1, q2⟩ => by
    obtain ⟨c, hcc⟩ := ownB i b' q1
    have := (hr.inj _ _ _ _ _ _ _ h1 (at_get hcc) h2 q2).resolve_right (fun q => by rw [hcc] at q; cases q.2)
    subst this
    exact h3 i q1
  have at' : ∀ id b, (putL hp bs bl').at ro id = some b → (∃ i : Nat, bs[i]? = some id ∧ bl'[i]? = some b) ∨ (hp.at ro id = some b ∧ (∀ i : Nat, bs[i]? ≠ some id) ∧ (putL hp bs bl').m.get id = hp.m.get id) := fun id b h => by
    cases hk : look id bs bl' with
    | some c =>
      simp only [Hp.at, putL_get, hk, Option.some.injEq] at h
      subst h
      exact .inl (look_some hk)
    | none =>
      refine .inr ⟨?_, look_none hlen' hk, by rw [putL_get, hk]⟩
      simp only [Hp.at, putL_get, hk] at h
      exact h
  have known : ∀ id b, (putL hp bs bl').at ro id = some b → ∃ c, hp.at ro id = some c := fun id b h => by
    rcases at' id b h with ⟨i, h1, _⟩ | ⟨h1, _⟩
    · obtain ⟨c, hcc⟩ := ownB i id h1
      exact ⟨c, at_get hcc⟩
    · exact ⟨b, h1⟩
  refine ⟨fun id b h => ?_, fun id id' b b' B t t' h h' hB hB' => ?_, fun id b h => ?_, fun id h1 h2 => ?_, fun B hB hF => ?_, Nat.le_trans hr.size k2.size, k2.tape.trans hr.tape, k2.os.trans hr.os, k2.output.trans hr.output, hr.glob, fun id x hx => ?_, ?_, fun B l hl => ?_, fun id b B t h hB => ?_, hr.fz.new⟩
  rotate_left 7
  · obtain ⟨t, fz, q⟩ := hr.fz.keep B l hl
    refine ⟨t, fz, ?_⟩
    rw [k2.frame B (lt_of_heap q) ?_]
    · exact q
    · intro ⟨i, b, t, q1, q2⟩
      obtain ⟨c, hcc⟩ := ownB i b q1
      rw [hr.fz.sep _ _ _ _ hcc q2] at hl; cases hl
  · have hm : ∃ b', hp.m.get id = some b' := by
      rcases at' id b (at_get h) with ⟨i, h1, _⟩ | ⟨_, _, h3⟩
      · exact ownB i id h1
      · exact ⟨b, by rw [← h3]; exact h⟩
    obtain ⟨b', hb'⟩ := hm
    exact hr.fz.sep _ _ _ _ hb' hB
  · rcases at' id b h with ⟨i, h1, h2⟩ | ⟨h1, h2, h3⟩
    · obtain ⟨q1, c, q2, q3⟩ := hb' i b h2
      obtain ⟨c0, hc0⟩ := ownB i id h1
      obtain ⟨B, t, o, e1, e2, e3, e4⟩ := hr.blk id c0 (at_get hc0)
      obtain ⟨B1, t1, o1, r1, r2, r3, r4⟩ := k2.blk (G + i) c (at_get q2)
      have := k1 (G + i) (B, t) (by rw [renL_own h1]; exact e1)
      rw [r1] at this
      obtain ⟨rfl, rfl⟩ := Prod.mk.inj (Option.some.inj this)
      exact ⟨B1, t1, o1, e1, r2, BR_under (n := 0) (fun id x _ hlt => by omega) _ _ q1 (q3 _ _ _ r3), .inr (e4.resolve_left (by rw [hc0]; simp))⟩
    · obtain ⟨B, t, o, e1, e2, e3, e4⟩ := hr.blk id b h1
      refine ⟨B, t, o, e1, ?_, e3, by rw [h3]; exact e4⟩
      rw [k2.frame B (lt_of_heap e2) (notOwn id b B t h1 e1 h2)]
      exact e2
  · obtain ⟨c, hc1⟩ := known id b h
    obtain ⟨c', hc2⟩ := known id' b' h'
    have ne : ∀ k, hp.m.get k = none → (putL hp bs bl').m.get k = none := fun k hk => by
      rw [putL_get]
      cases hq : look k bs bl' with
      | none => exact hk
      | some c0 =>
        obtain ⟨i, h1, _⟩ := look_some hq
        obtain ⟨c2, hc2⟩ := ownB i k h1
        rw [hk] at hc2; cases hc2
    exact (hr.inj _ _ _ _ _ _ _ hc1 hc2 hB hB').imp (fun e => e) fun q => ⟨ne _ q.1, ne _ q.2⟩
  · rw [putL_get] at h
    cases hk : look id bs bl' with
    | some c =>
      obtain ⟨i, h1, _⟩ := look_some hk
      obtain ⟨c, hcc⟩ := ownB i id h1
      exact hr.sep _ _ hcc
    | none => rw [hk] at h; exact hr.sep _ _ h
  · rw [putL_nxt.1] at h1; rw [putL_nxt.2] at h2
    exact hr.fresh id h1 h2
  · rw [k2.frame B (Nat.lt_of_lt_of_le hB hr.size) ?_]
    · exact hr.frame B hB hF
    · intro ⟨i, b, t, q1, q2⟩
      obtain ⟨c, hcc⟩ := ownB i b q1
      obtain ⟨B1, t1, o1, e1, _, _, e4⟩ := hr.blk b c (at_get hcc)
      rw [q2] at e1
      obtain ⟨rfl, rfl⟩ := Prod.mk.inj (Option.some.inj e1)
      rcases e4.resolve_left (by rw [hcc]; simp) with h | h
      · exact hF h
      · omega
  · rw [putL_nxt.1]; exact hr.ren id x hx
  · rw [putL_nxt.1]; exact hr.le0
end
end Go.Ev
