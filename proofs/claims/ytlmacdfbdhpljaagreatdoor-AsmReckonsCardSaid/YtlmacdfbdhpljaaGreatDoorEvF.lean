/- Own text: functions with deferred calls, and recover. -/
import Derived.Test.YtlmacdfbdhpljaaGreatDoorEvE
import Derived.Recover
namespace Go.Ev
open Go.Ev.Tr
/-- How the caller of a deferred call goes: it returns; it panics (what was raised; is it recovered?). -/
inductive Md where
  | ret
  | pan (v : V) (rec : Bool)
def isRecover (o : Oper) : Bool := match o.op with
  | .call c => match c.callee with
    | .builtin .recover => true
    | _ => false
  | _ => false
def recoverM : Md → V × Md
  | .ret => (.nili, .ret)
  | .pan v rec => match rec with
    | true => (.nili, .pan v true)
    | false => (v, .pan v true)
def stepR1 (E : Env) (ro : RO) (call : CallF) (nt : Nat) (ops : List Oper) (i : Nat) (o : Oper) (s : St × Md) : T (Option V × (St × Md)) := match isRecover o with
  | true => match guardD nt ops s.1.tmps o with
    | some true => .ret (none, ⟨setT s.1.tmps o.dst (recoverM s.2).1, s.1.dfr, s.1.hp⟩, (recoverM s.2).2)
    | some false => .ret (none, ⟨setT s.1.tmps o.dst (.tup []), s.1.dfr, s.1.hp⟩, s.2)
    | none => .fail
  | false => (step1 E ro call nt ops i o s.1).bind fun r => .ret (r.1, r.2, s.2)
def evOpsR (E : Env) (ro : RO) (call : CallF) (nt : Nat) (ops : List Oper) : Nat → List Oper → St × Md → T (X × (St × Md))
  | _, [], s => .ret (.normal, s)
  | i, o :: rest, s => (stepR1 E ro call nt ops i o s).bind fun r => match r.1 with
    | none => evOpsR E ro call nt ops (i + 1) rest r.2
    | some v => .ret (.pan v, r.2)
def thenR (f : St × Md → T (X × (St × Md))) (r : X × (St × Md)) : T (X × (St × Md)) := match r.1 with
  | .normal => f r.2
  | x => .ret (x, r.2)
def leaveR (id : Nat) (r : X × (St × Md)) : T (X × (St × Md)) := match r.1 with
  | .exit id' => match Nat.beq id' id with
    | true => .ret (.normal, r.2)
    | false => .ret (.exit id', r.2)
  | x => .ret (x, r.2)
def condR (s : St × Md) (c : Operand) (v : Option V) (a b : St × Md → T (X × (St × Md))) : T (X × (St × Md)) := match v with
  | some (.bool true) => a s
  | some (.bool false) => b s
  | some (.sbool t) => .br t (a (s.1.known c true, s.2)) (b (s.1.known c false, s.2))
  | _ => .fail
/-- Code that may recover: to a depth; what lies deeper does not. -/
def evCR (E : Env) (N : Nat) (ro : RO) (call : CallF) (nt : Nat) : Nat → Code → St × Md → T (X × (St × Md))
  | 0, c, s => (evC E ro call nt N c s.1).bind fun r => .ret (r.1, r.2, s.2)
  | n + 1, c, s => match c with
    | .seq a b => (evCR E N ro call nt n a s).bind (thenR (evCR E N ro call nt n b))
    | .cond c a b => condR s c (opV E.G s.1.tmps c) (evCR E N ro call nt n a) (evCR E N ro call nt n b)
    | .block id b => (evCR E N ro call nt n b s).bind (leaveR id)
    | .scope b => evCR E N ro call nt n b s
    | .region _ ops false => evOpsR E ro call nt ops.toList 0 ops.toList s
    | c => (evC E ro call nt N c s.1).bind fun r => .ret (r.1, r.2, s.2)
def settleM : Md → Md
  | .ret => .ret
  | .pan v rec => match rec with
    | true => .ret
    | false => .pan v false
def endD (E : Env) (ro : RO) (fn : Func) (r : X × (St × Md)) : T (Md × Hp) := match r.2.1.dfr with
  | [] => match r.1 with
    | .normal => (resV E ro r.2.1 fn.results.toList).bind fun _ => .ret (settleM r.2.2, r.2.1.hp)
    | .ret => (resV E ro r.2.1 fn.results.toList).bind fun _ => .ret (settleM r.2.2, r.2.1.hp)
    | _ => .fail
  | _ => .fail
def runD (E : Env) (N : Nat) (call : CallF) (ro : RO) (d : ADef) (hp : Hp) (md : Md) : T (Md × Hp) := match d.fn with
  | .func f => match E.fn f with
    | some fn => match fn.body with
      | some c => match Nat.ble (d.args ++ d.cap).length fn.ntmps with
        | true => (evCR E N ro call fn.ntmps 40 c (⟨tmpsOf .lf 0 (d.args ++ d.cap), [], hp⟩, md)).bind (endD E ro fn)
        | false => .fail
      | none => .fail
    | none => .fail
  | _ => .fail
def leavesM (E : Env) (N : Nat) (call : CallF) (ro : RO) : List ADef → Hp → Md → T (Md × Hp)
  | [], hp, md => .ret (md, hp)
  | d :: ds, hp, md => (runD E N call ro d hp md).bind fun r => leavesM E N call ro ds r.2 r.1
def finG (E : Env) (ro : RO) (fn : Func) (st : St) (r : Md × Hp) : T (AEnd × Hp) := match r.1 with
  | .ret => (resV E ro ⟨st.tmps, [], r.2⟩ fn.results.toList).bind fun l => .ret (.ret (resOne l), r.2)
  | .pan v rec => match rec with
    | true => .fail
    | false => .ret (.pan v, r.2)
/-- How a body with deferred calls ends. -/
def endG (E : Env) (N : Nat) (call : CallF) (ro : RO) (fn : Func) (r : X × St) : T (AEnd × Hp) := match r.2.dfr with
  | [] => endF E ro fn r
  | _ => match r.1 with
    | .exit _ => .fail
    | .pan v => (leavesM E N call ro r.2.dfr r.2.hp (.pan v false)).bind (finG E ro fn r.2)
    | _ => (leavesM E N call ro r.2.dfr r.2.hp .ret).bind (finG E ro fn r.2)
def bodyG (E : Env) (N : Nat) (call : CallF) (ro : RO) (fn : Func) (args : List V) (hp : Hp) : T (AEnd × Hp) := match fn.body with
  | some c => match Nat.ble args.length fn.ntmps with
    | true => (evC E ro call fn.ntmps N c ⟨tmpsOf .lf 0 args, [], hp⟩).bind (endG E N call ro fn)
    | false => .fail
  | none => .fail
/-- A function, with its deferred calls. -/
def evG (E : Env) (N : Nat) : Nat → CallF
  | 0, _, _, _, _ => .fail
  | n + 1, ro, f, args, hp => match E.sm f with
    | some s => s ro hp args
    | none => match E.fn f with
      | some fn => bodyG E N (evG E N n) ro fn args hp
      | none => .fail

/-! ### that it is right -/
def MdR (ρ : Ren) : Md → FrameMode → Prop
  | .ret, u => u = .returning
  | .pan v rec, u => ∃ x, u = .panicking [{ v := x, recovered := rec }] ∧ VR ρ v x
theorem MdR.mono {ρ ρ' : Ren} (h : ρ.le ρ') : ∀ {m : Md} {u : FrameMode}, MdR ρ m u → MdR ρ' m u
  | .ret, _, h' => h'
  | .pan _ _, _, ⟨x, h1, h2⟩ => ⟨x, h1, VR.mono h _ _ h2⟩
section
variable {P : Program} {E : Env} {ρ : Ren} {w0 : Base} {w : World} {F : Nat → Prop} {ro : RO} {a : Act} {nt : Nat} {c₀ : Frame} {cs : List Frame}
def PR (w0 : Base) (F : Nat → Prop) (G : Nat) (ro : RO) (nt : Nat) (ρ : Ren) (c₀ : Frame) (cs : List Frame) (r : X × (St × Md)) : Exit → Act → List Frame → World → Prop := fun e a cs' w =>
  ∃ ρ' u, ρ.le ρ' ∧ cs' = { c₀ with mode := u } :: cs ∧ SR w0 F G ro nt ρ' r.2.1 a w ∧ XR ρ' r.1 e ∧ MdR ρ' r.2.2 u
theorem PR.mono {G : Nat} {ρ ρ' : Ren} (h : ρ.le ρ') {r : X × (St × Md)} {e : Exit} {cs' : List Frame} (hp : PR w0 F G ro nt ρ' c₀ cs r e a cs' w) : PR w0 F G ro nt ρ c₀ cs r e a cs' w :=
  let ⟨ρ2, u, h1, h2⟩ := hp; ⟨ρ2, u, h.trans h1, h2⟩
theorem recoverM_sound {m : Md} {u : FrameMode} (h : MdR ρ m u) : VR ρ (recoverM m).1 (match recoverD ({ c₀ with mode := u } :: cs) with
      | some (v, _) => v
      | none => .nilIface) ∧ ∃ u', MdR ρ (recoverM m).2 u' ∧ (match recoverD ({ c₀ with mode := u } :: cs) with
      | some (_, cs') => cs'
      | none => { c₀ with mode := u } :: cs) = { c₀ with mode := u' } :: cs := by
  cases m with
  | ret =>
    have h : u = .returning := h
    subst h
    exact ⟨rfl, _, rfl, rfl⟩
  | pan v rec =>
    obtain ⟨x, rfl, hx⟩ := h
    cases rec with
    | true => exact ⟨rfl, _, ⟨x, rfl, hx⟩, rfl⟩
    | false => exact ⟨hx, _, ⟨x, rfl, hx⟩, rfl⟩
theorem run_recover {o : Oper} (h : isRecover o = true) (w : World) : (execOp a.eval o).run P w = .ok .recover w := by
  unfold isRecover at h
  split at h <;> try contradiction
  rename_i c hc
  split at h <;> try contradiction
  rename_i hb
  simp only [execOp, hc, resolve, hb, Sem.run_bind, Sem.run_pure, Result.andThen_ok, invoke]
  rfl
/-- The list of operations that are left, as the kit's recursion over their places reads it. -/
theorem wpOpsS_get {ops : Array Oper} {Q : Exit → Act → List Frame → World → Prop} {i : Nat} {rest : List Nat} {o : Oper} (ho : ops[i]? = some o) {css : List Frame} :
    wpOpsS P ops Q (i :: rest) a css w = (if Region.wanted o (yielded ops a.tmps) then
        match (execOp a.eval o).run P w with
        | .ok .recover w' =>
          match recoverD css with
          | some (v, cs') => wpOpsS P ops Q rest (a.put o.dst v) cs' w'
          | none => wpOpsS P ops Q rest (a.put o.dst .nilIface) css w'
        | r => o.upon P a (fun a' w' => wpOpsS P ops Q rest a' css w') (fun e a' w' => Q e a' css w') r
      else wpOpsS P ops Q rest (a.put o.dst undef) css w) := by
  simp only [wpOpsS, ho]
  rfl
theorem evOpsR_sound (hE : EnvOK P E) {call : CallF} (hc : CallOK P E.G call) {ops : Array Oper} : ∀ (l : List Oper) (i : Nat) (ρ : Ren) (s : St × Md) (a : Act) (u : FrameMode) (w : World) (r : X × (St × Md)) (Q : Exit → Act → List Frame → World → Prop),
    ops.toList.drop i = l → SR w0 F E.G ro nt ρ s.1 a w → MdR ρ s.2 u → (evOpsR E ro call nt ops.toList i l s).run = some r →
    (∀ e a cs' w, PR w0 F E.G ro nt ρ c₀ cs r e a cs' w → Q e a cs' w) → wpOpsS P ops Q (List.range' i l.length) a ({ c₀ with mode := u } :: cs) w
  | [], i, ρ, s, a, u, w, r, Q, _, hs, hm, h, hQ => by
    injection h with h; subst h
    exact hQ _ _ _ _ ⟨ρ, u, Ren.le.refl _, rfl, hs, rfl, hm⟩
  | o :: l, i, ρ, s, a, u, w, r, Q, hl, hs, hm, h, hQ => by
    have ho : ops[i]? = some o := by
      have : (ops.toList.drop i)[0]? = some o := by rw [hl]; rfl
      simpa using this
    have hl' : ops.toList.drop (i + 1) = l := by
      have : ops.toList.drop (i + 1) = (ops.toList.drop i).drop 1 := by rw [List.drop_drop]
      rw [this, hl]; rfl
    obtain ⟨q, h1, h2⟩ := T.run_bind_some h
    rw [List.length_cons, List.range'_succ, wpOpsS_get ho]
    unfold stepR1 at h1
    split at h1
    · rename_i hrec
      split at h1 <;> try (cases h1; done)
      · rename_i hg
        obtain ⟨hd, hw⟩ := guardD_sound hs.tr hg
        injection h1 with h1; subst h1
        rw [hw, if_pos rfl, run_recover hrec]
        obtain ⟨k1, u', k2, k3⟩ := recoverM_sound (c₀ := c₀) (cs := cs) hm
        simp only
        have key : ∀ (v : Value) (css : List Frame), VR ρ (recoverM s.2).1 v → css = { c₀ with mode := u' } :: cs → wpOpsS P ops Q (List.range' (i + 1) l.length) (a.put o.dst v) css w := by
          intro v css hv hcs
          subst hcs
          refine evOpsR_sound hE hc l (i + 1) ρ (⟨setT s.1.tmps o.dst (recoverM s.2).1, s.1.dfr, s.1.hp⟩, (recoverM s.2).2) _ u' w r Q hl' ⟨hs.rel, TR.put hs.tr o.dst hv hd hs.nt, ?_, ?_⟩ k2 h2 hQ
          · have := hs.dr
            cases o.dst <;> exact this
          · rw [size_put]; exact hs.nt
        cases hrd : recoverD ({ c₀ with mode := u } :: cs) with
        | none => rw [hrd] at k1 k3; exact key _ _ k1 k3
        | some p => rw [hrd] at k1 k3; exact key _ _ k1 k3
      · rename_i hg
        obtain ⟨hd, hw⟩ := guardD_sound hs.tr hg
        injection h1 with h1; subst h1
        rw [hw, if_neg (by simp)]
        exact evOpsR_sound hE hc l (i + 1) ρ (⟨setT s.1.tmps o.dst (.tup []), s.1.dfr, s.1.hp⟩, s.2) _ u w r Q hl' (put_undef hs hd) hm h2 hQ
    · obtain ⟨q', h3, h4⟩ := T.run_bind_some h1
      injection h4 with h4; subst h4
      have hst := step1_sound0 (ops := ops) (K := fun a' w' => wpOpsS P ops Q (List.range' (i + 1) l.length) a' ({ c₀ with mode := u } :: cs) w') (Q := fun e a' w' => Q e a' ({ c₀ with mode := u } :: cs) w') hE hc hs h3
        (fun hq ρ' a' w' hle hs' => by
          simp only [hq] at h2
          exact evOpsR_sound hE hc l (i + 1) ρ' (q'.2, s.2) a' u w' r Q hl' hs' (hm.mono hle) h2 fun e a cs' w hp => hQ e a cs' w (PR.mono hle hp))
        (fun v hq ρ' x a' w' hle hs' hx => by
          simp only [hq] at h2
          injection h2 with h2; subst h2
          exact hQ _ _ _ _ ⟨ρ', u, hle, rfl, hs', ⟨x, rfl, hx⟩, hm.mono hle⟩)
      split <;> rename_i hw
      · rw [if_pos hw] at hst
        unfold Oper.wp at hst
        split
        · rename_i w' hrr
          rw [hrr] at hst
          exact hst.elim
        · exact hst
      · rw [if_neg hw] at hst; exact hst
theorem wpS_block {Q : Exit → Act → List Frame → World → Prop} {id : Nat} {c : Code} {css : List Frame} (h : c.wpS P (fun e a cs' w => match e with
      | .exit id' => if id' = id then Q .normal a cs' w else Q (.exit id') a cs' w
      | e => Q e a cs' w) a css w) : (Code.block id c).wpS P Q a css w := by
  intro b k hb hr
  obtain ⟨e, a₁, cs₁, w₁, hq, harr⟩ := h b (.inBlock id :: k) hb hr
  cases e with
  | normal => exact ⟨.normal, a₁, cs₁, w₁, hq, .head step_block (Steps.trans harr (.one step_inBlock))⟩
  | exit id' =>
    by_cases hid : id' = id
    · simp only [hid, if_true] at hq
      exact ⟨.normal, a₁, cs₁, w₁, hq, .head step_block (harr k (by simp [exitTo, hid]))⟩
    · simp only [hid, if_false] at hq
      refine ⟨.exit id', a₁, cs₁, w₁, hq, fun k' hk => .head step_block (harr k' ?_)⟩
      have : (id == id') = false := by simp; exact fun h => hid h.symm
      simp [exitTo, this, hk]
  | goto l => exact ⟨_, a₁, cs₁, w₁, hq, fun k' hk => .head step_block (harr k' (by simp [gotoIn, hk]))⟩
  | ret => exact ⟨_, a₁, cs₁, w₁, hq, .of_steps (.one step_block) harr⟩
  | panic ch => exact ⟨_, a₁, cs₁, w₁, hq, .of_steps (.one step_block) harr⟩
  | outgrown => exact ⟨_, a₁, cs₁, w₁, hq, .of_steps (b := b) (k := k) (cs := cs₁) (e := .outgrown) (.one step_block) harr⟩
theorem wpS_mono {Q Q' : Exit → Act → List Frame → World → Prop} {c : Code} {css : List Frame} (h : c.wpS P Q a css w) (hq : ∀ e a cs w, Q e a cs w → Q' e a cs w) : c.wpS P Q' a css w :=
  fun b k hb hr => let ⟨e, a', cs', w', q, r⟩ := h b k hb hr; ⟨e, a', cs', w', hq _ _ _ _ q, r⟩
theorem wpS_scope {Q : Exit → Act → List Frame → World → Prop} {c : Code} {css : List Frame} (h : c.wpS P (fun e a cs w => match e with
      | .goto _ => False
      | e => Q e a cs w) a css w) : (Code.scope c).wpS P Q a css w := by
  intro b k hb hr
  obtain ⟨e, a₁, cs₁, w₁, hq, harr⟩ := h b (.inScope c :: k) hb hr
  cases e with
  | normal => exact ⟨.normal, a₁, cs₁, w₁, hq, .head step_scope (Steps.trans harr (.one step_inScope))⟩
  | exit id => exact ⟨.exit id, a₁, cs₁, w₁, hq, fun k' hk => .head step_scope (harr k' (by simp [exitTo, hk]))⟩
  | goto l => exact hq.elim
  | ret => exact ⟨_, a₁, cs₁, w₁, hq, .of_steps (.one step_scope) harr⟩
  | panic ch => exact ⟨_, a₁, cs₁, w₁, hq, .of_steps (.one step_scope) harr⟩
  | outgrown => exact ⟨_, a₁, cs₁, w₁, hq, .of_steps (.one step_scope) harr⟩
theorem thenR_some {f : St × Md → T (X × (St × Md))} {q r : X × (St × Md)} (h : (thenR f q).run = some r) : (q.1 = .normal ∧ (f q.2).run = some r) ∨ (q.1 ≠ .normal ∧ r = q) := by
  obtain ⟨x, st⟩ := q
  cases x
  · exact .inl ⟨rfl, h⟩
  all_goals (injection h with h; subst h; exact .inr ⟨by simp, rfl⟩)
theorem evCR_sound (hE : EnvOK P E) {call : CallF} (hc : CallOK P E.G call) (hd : DrawOK P E call) {N : Nat} : ∀ (n : Nat) (c : Code) (ρ : Ren) (s : St × Md) (a : Act) (u : FrameMode) (w : World) (r : X × (St × Md)) (Q : Exit → Act → List Frame → World → Prop),
    SR w0 F E.G ro nt ρ s.1 a w → MdR ρ s.2 u → (evCR E N ro call nt n c s).run = some r →
    (∀ e a cs' w, PR w0 F E.G ro nt ρ c₀ cs r e a cs' w → Q e a cs' w) → c.wpS P Q a ({ c₀ with mode := u } :: cs) w := by
  intro n
  have plain : ∀ (c : Code) (ρ : Ren) (s : St × Md) (a : Act) (u : FrameMode) (w : World) (r : X × (St × Md)) (Q : Exit → Act → List Frame → World → Prop), SR w0 F E.G ro nt ρ s.1 a w → MdR ρ s.2 u →
      ((evC E ro call nt N c s.1).bind fun r => T.ret (r.1, r.2, s.2)).run = some r → (∀ e a cs' w, PR w0 F E.G ro nt ρ c₀ cs r e a cs' w → Q e a cs' w) → c.wpS P Q a ({ c₀ with mode := u } :: cs) w := by
    intro c ρ s a u w r Q hs hm h hQ
    obtain ⟨q, h1, h2⟩ := T.run_bind_some h
    injection h2 with h2; subst h2
    refine wpS_of_wp (evC_sound hE hc hd N c ρ s.1 a w q _ hs h1 fun e a' w' hp => ?_)
    obtain ⟨ρ', g1, g2, g3⟩ := hp
    exact hQ _ _ _ _ ⟨ρ', u, g1, rfl, g2, g3, hm.mono g1⟩
  induction n with
  | zero => exact plain
  | succ n ih =>
    intro c ρ s a u w r Q hs hm h hQ
    unfold evCR at h
    split at h
    · rename_i x y
      obtain ⟨q, h1, h2⟩ := T.run_bind_some h
      refine wpS_seq (ih x ρ s a u w q _ hs hm h1 fun e a' cs' w' hp => ?_)
      rcases thenR_some h2 with ⟨k1, k2⟩ | ⟨k1, k2⟩
      · obtain ⟨ρ', u', g1, g2, g3, g4, g5⟩ := hp
        rw [k1] at g4
        simp only [XR] at g4; subst g4; subst g2
        exact ih y ρ' q.2 a' u' w' r Q g3 g5 k2 fun e a cs' w hp => hQ e a cs' w (PR.mono g1 hp)
      · subst k2
        have := hQ _ _ _ _ hp
        obtain ⟨ρ', u', g1, g2, g3, g4, g5⟩ := hp
        cases e with
        | normal =>
          exfalso
          obtain ⟨x, s'⟩ := r
          cases x <;> simp only [XR] at g4 k1
          · exact k1 rfl
          · cases g4
          · cases g4
          · obtain ⟨x, e, _⟩ := g4; cases e
        | _ => exact this
    · rename_i c x y
      unfold condR at h
      split at h <;> try (cases h; done)
      · rename_i hv
        exact wpS_cond (t := true) (opV_sound hs.tr hs.rel.glob hv) (ih x ρ s a u w r Q hs hm h hQ)
      · rename_i hv
        exact wpS_cond (t := false) (opV_sound hs.tr hs.rel.glob hv) (ih y ρ s a u w r Q hs hm h hQ)
      · rename_i t hv
        have hb := opV_sound hs.tr hs.rel.glob hv
        cases t with
        | true => exact wpS_cond (t := true) hb (ih x ρ (s.1.known c true, s.2) a u w r Q (known_sound hs hb) hm h hQ)
        | false => exact wpS_cond (t := false) hb (ih y ρ (s.1.known c false, s.2) a u w r Q (known_sound hs hb) hm h hQ)
    · rename_i id b
      obtain ⟨q, h1, h2⟩ := T.run_bind_some h
      refine wpS_block (ih b ρ s a u w q _ hs hm h1 fun e a' cs' w' hp => ?_)
      obtain ⟨ρ', u', g1, g2, g3, g4, g5⟩ := hp
      obtain ⟨x, s'⟩ := q
      cases x with
      | exit id' =>
        simp only [XR] at g4; subst g4
        unfold leaveR at h2
        simp only at h2
        split at h2
        · rename_i he
          have he := Nat.eq_of_beq_eq_true he
          subst he
          injection h2 with h2; subst h2
          simp only [if_true]
          exact hQ _ _ _ _ ⟨ρ', u', g1, g2, g3, rfl, g5⟩
        · rename_i he
          have he := Nat.ne_of_beq_eq_false he
          injection h2 with h2; subst h2
          simp only [if_neg he]
          exact hQ _ _ _ _ ⟨ρ', u', g1, g2, g3, rfl, g5⟩
      | normal => simp only [XR] at g4; subst g4; injection h2 with h2; subst h2; exact hQ _ _ _ _ ⟨ρ', u', g1, g2, g3, rfl, g5⟩
      | ret => simp only [XR] at g4; subst g4; injection h2 with h2; subst h2; exact hQ _ _ _ _ ⟨ρ', u', g1, g2, g3, rfl, g5⟩
      | pan v => obtain ⟨x, rfl, hx⟩ := g4; injection h2 with h2; subst h2; exact hQ _ _ _ _ ⟨ρ', u', g1, g2, g3, ⟨x, rfl, hx⟩, g5⟩
    · refine wpS_scope (ih _ ρ s a u w r _ hs hm h fun e a' cs' w' hp => ?_)
      cases e with
      | goto l =>
        obtain ⟨ρ', u', g1, g2, g3, g4, g5⟩ := hp
        obtain ⟨x, s'⟩ := r
        cases x <;> simp only [XR] at g4 <;> first | (cases g4; done) | (obtain ⟨x, e, _⟩ := g4; cases e)
      | _ => exact hQ _ _ _ _ hp
    · rename_i id ops
      refine wpS_region ?_
      have := evOpsR_sound (c₀ := c₀) (cs := cs) hE hc ops.toList 0 ρ s a u w r Q (by simp) hs hm h hQ
      rw [List.range_eq_range', ← Array.length_toList]
      exact this
    · exact plain _ ρ s a u w r Q hs hm h hQ
theorem settleM_sound {m : Md} {u : FrameMode} (h : MdR ρ m u) : MdR ρ (settleM m) (settle u) := by
  cases m with
  | ret => have h : u = .returning := h; subst h; rfl
  | pan v rec =>
    obtain ⟨x, rfl, hx⟩ := h
    cases rec with
    | true => rfl
    | false => exact ⟨x, rfl, hx⟩
theorem runD_sound (hE : EnvOK P E) {call : CallF} (hc : CallOK P E.G call) (hd : DrawOK P E call) {N : Nat} {d : ADef} {hp : Hp} {md : Md} {r : Md × Hp} {u : FrameMode} {cl as : List Value} (hr : Rel w0 F E.G ro ρ hp w) (hm : MdR ρ md u)
    (h1 : VRs ρ d.cap cl) (h2 : VRs ρ d.args as) (h : (runD E N call ro d hp md).run = some r) :
    ∃ f, (invoke (.fn d.fn ⟨cl⟩) ⟨as⟩).run P w = .ok (.enter f ⟨as ++ cl⟩) w ∧ CallsD P f ⟨as ++ cl⟩ u w fun e u' w' => match e with
      | .returned _ => ∃ ρ', ρ.le ρ' ∧ Rel w0 F E.G ro ρ' r.2 w' ∧ MdR ρ' r.1 (settle u')
      | _ => False := by
  unfold runD at h
  split at h <;> try (cases h; done)
  rename_i f hf
  split at h <;> try (cases h; done)
  rename_i fn hfn
  split at h <;> try (cases h; done)
  rename_i c hbody
  split at h <;> try (cases h; done)
  rename_i hn
  have hn := Nat.le_of_ble_eq_true hn
  obtain ⟨q, g1, g2⟩ := T.run_bind_some h
  have hl := h2.append h1
  have hll := hl.length
  refine ⟨f, ?_, ?_⟩
  · rw [hf]
    simp only [invoke]
    have := hE.call f fn hfn (⟨as ++ cl⟩) w
    simpa using this
  · refine callsD_of_wpS (hE.fn f fn hfn) hbody fun c₀ cs hc₀ => ?_
    have hs : SR w0 F E.G ro fn.ntmps ρ ⟨tmpsOf .lf 0 (d.args ++ d.cap), [], hp⟩ { tmps := (⟨as ++ cl⟩ : Array Value) ++ Array.replicate (fn.ntmps - (⟨as ++ cl⟩ : Array Value).size) undef, defers := [] } w := by
      refine ⟨hr, tmpsOf_sound hl (fun t v hv => by cases hv) (fun k hk => ?_), rfl, ?_⟩
      · rw [Nat.zero_add, Array.getElem?_append_left (by simpa using hk)]
        simp
      · simp; simp at hll hn; omega
    have hcc : ({ c₀ with mode := u } : Frame) = c₀ := by subst hc₀; rfl
    have key := evCR_sound (c₀ := c₀) (cs := cs) hE hc hd 40 c ρ (⟨tmpsOf .lf 0 (d.args ++ d.cap), [], hp⟩, md) _ u w q (bodyPostS P fn c₀ cs fun e u' w' => match e with
      | .returned _ => ∃ ρ', ρ.le ρ' ∧ Rel w0 F E.G ro ρ' r.2 w' ∧ MdR ρ' r.1 (settle u')
      | _ => False) hs hm g1 fun e a' cs' w' hp => by
        obtain ⟨ρ', u', k1, k2, k3, k4, k5⟩ := hp
        obtain ⟨x, s'⟩ := q
        unfold endD at g2
        split at g2 <;> try (cases g2; done)
        rename_i hdf
        have hde : a'.defers = [] := by
          have k6 := k3.dr
          have hdf : s'.1.dfr = [] := hdf
          rw [hdf] at k6; exact k6
        have fin : ((resV E ro s'.1 fn.results.toList).bind fun _ => T.ret (settleM s'.2, s'.1.hp)).run = some r → ∃ v, (results fn a'.tmps).run P w' = .ok v w' ∧ ∃ ρ', ρ.le ρ' ∧ Rel w0 F E.G ro ρ' r.2 w' ∧ MdR ρ' r.1 (settle u') := fun hh => by
          obtain ⟨vs, m1, m2⟩ := T.run_bind_some hh
          injection m2 with m2; subst m2
          obtain ⟨y, m3, m4⟩ := results_sound (P := P) hE k3 m1
          exact ⟨y, m3, ρ', k1, k3.rel, settleM_sound k5⟩
        cases x <;> simp only [XR] at k4
        · subst k4
          obtain ⟨y, m1, m2⟩ := fin g2
          exact ⟨hde, u', k2, y, m1, m2⟩
        · cases g2
        · subst k4
          obtain ⟨y, m1, m2⟩ := fin g2
          exact ⟨hde, u', k2, y, m1, m2⟩
        · cases g2
    rw [hcc] at key
    exact key
theorem leavesM_sound (hE : EnvOK P E) {call : CallF} (hc : CallOK P E.G call) (hd : DrawOK P E call) {N : Nat} {fn : Func} {tmps : Array Value} {R : Ending → World → Prop} : ∀ {ds : List ADef} {l : List Deferred} {ρ : Ren} {hp : Hp} {md : Md} {u : FrameMode} {w : World} {r : Md × Hp},
    DR ρ ds l → Rel w0 F E.G ro ρ hp w → MdR ρ md u → (leavesM E N call ro ds hp md).run = some r →
    (∀ ρ' u' w', ρ.le ρ' → Rel w0 F E.G ro ρ' r.2 w' → MdR ρ' r.1 u' → Leaves P fn tmps R [] u' w') → Leaves P fn tmps R l u w
  | [], l, ρ, hp, md, u, w, r, hdr, hr, hm, h, hK => by
    have hdr : l = [] := hdr
    subst hdr
    injection h with h; subst h
    exact hK ρ u w (Ren.le.refl _) hr hm
  | d :: ds, l, ρ, hp, md, u, w, r, ⟨cl, as, l', e, h1, h2, h3⟩, hr, hm, h, hK => by
    subst e
    obtain ⟨q, g1, g2⟩ := T.run_bind_some h
    obtain ⟨f, k1, k2⟩ := runD_sound hE hc hd hr hm h1 h2 g1
    refine leaves_cons ?_ k1 (k2.mono fun e u' w' he => ?_)
    · intro hu; subst hu
      cases md with
      | ret => cases hm
      | pan v rec => obtain ⟨x, e, _⟩ := hm; cases e
    · cases e with
      | returned v =>
        obtain ⟨ρ', m1, m2, m3⟩ := he
        exact leavesM_sound hE hc hd (DR.mono m1 h3) m2 m3 g2 fun ρ2 u2 w2 n1 n2 n3 => hK ρ2 u2 w2 (m1.trans n1) n2 n3
      | _ => exact he.elim
theorem endG_sound (hE : EnvOK P E) {call : CallF} (hc : CallOK P E.G call) (hd : DrawOK P E call) {N : Nat} {fn : Func} {q : X × St} {r : AEnd × Hp} {e : Exit} {a : Act} {w' : World} (hp : PX w0 F E.G ro nt ρ q e a w') (h2 : (endG E N call ro fn q).run = some r) :
    bodyPostD P fn (EndR w0 F E.G ro ρ r) e a w' := by
  unfold endG at h2
  split at h2
  · rename_i hdf
    have hb := endF_sound hE hp h2
    obtain ⟨ρ', k1, k2, k3⟩ := hp
    have hde : a.defers = [] := by have := k2.dr; rw [hdf] at this; exact this
    cases e with
    | normal =>
      obtain ⟨_, v, m1, m2⟩ := hb
      show Leaves P fn a.tmps _ a.defers .returning w'
      rw [hde]; exact ⟨v, m1, m2⟩
    | ret =>
      obtain ⟨_, v, m1, m2⟩ := hb
      show Leaves P fn a.tmps _ a.defers .returning w'
      rw [hde]; exact ⟨v, m1, m2⟩
    | panic chain =>
      obtain ⟨_, m1⟩ := hb
      show Leaves P fn a.tmps _ a.defers (.panicking chain) w'
      rw [hde]; exact m1
    | outgrown => exact hb
    | exit id => exact hb
    | goto l => exact hb
  · obtain ⟨ρ', k1, k2, k3⟩ := hp
    obtain ⟨x, st⟩ := q
    have fin : ∀ (md : Md) (u : FrameMode), MdR ρ' md u → ((leavesM E N call ro st.dfr st.hp md).bind (finG E ro fn st)).run = some r → Leaves P fn a.tmps (EndR w0 F E.G ro ρ r) a.defers u w' := by
      intro md u hm hh
      obtain ⟨p, m1, m2⟩ := T.run_bind_some hh
      refine leavesM_sound hE hc hd k2.dr k2.rel hm m1 fun ρ2 u2 w2 n1 n2 n3 => ?_
      obtain ⟨md2, hp2⟩ := p
      unfold finG at m2
      cases md2 with
      | ret =>
        have n3 : u2 = .returning := n3
        subst n3
        obtain ⟨vs, m3, m4⟩ := T.run_bind_some m2
        injection m4 with m4; subst m4
        have hs2 : SR w0 F E.G ro nt ρ2 ⟨st.tmps, [], hp2⟩ { a with defers := [] } w2 := ⟨n2, TR.mono n1 k2.tr, rfl, k2.nt⟩
        obtain ⟨y, m5, m6⟩ := results_sound (P := P) hE hs2 m3
        exact ⟨y, m5, ρ2, k1.trans n1, n2, y, rfl, m6⟩
      | pan v rec =>
        obtain ⟨x, rfl, hx⟩ := n3
        cases rec with
        | true => cases m2
        | false =>
          injection m2 with m2; subst m2
          exact ⟨ρ2, k1.trans n1, n2, x, rfl, hx⟩
    cases x with
    | normal => simp only [XR] at k3; subst k3; exact fin .ret .returning rfl h2
    | ret => simp only [XR] at k3; subst k3; exact fin .ret .returning rfl h2
    | exit id => cases h2
    | pan v =>
      obtain ⟨y, rfl, hy⟩ := k3
      exact fin (.pan v false) (.panicking [{ v := y, recovered := false }]) ⟨y, rfl, hy⟩ h2
theorem bodyG_sound (hE : EnvOK P E) {call : CallF} (hc : CallOK P E.G call) (hd : DrawOK P E call) {f N : Nat} {fn : Func} {args : List V} {hp : Hp} {r : AEnd × Hp} {l : List Value} (hf : P.funcs[f]? = some fn)
    (h : (bodyG E N call ro fn args hp).run = some r) (hr : Rel w0 F E.G ro ρ hp w) (hl : VRs ρ args l) : Calls P f ⟨l⟩ w (EndR w0 F E.G ro ρ r) := by
  unfold bodyG at h
  split at h <;> try (cases h; done)
  rename_i c hbody
  split at h <;> try (cases h; done)
  rename_i hn
  have hn := Nat.le_of_ble_eq_true hn
  obtain ⟨q, h1, h2⟩ := T.run_bind_some h
  have hll := hl.length
  have hs : SR w0 F E.G ro fn.ntmps ρ ⟨tmpsOf .lf 0 args, [], hp⟩ { tmps := (⟨l⟩ : Array Value) ++ Array.replicate (fn.ntmps - (⟨l⟩ : Array Value).size) undef, defers := [] } w := by
    refine ⟨hr, tmpsOf_sound hl (fun t v hv => by cases hv) (fun k hk => ?_), rfl, ?_⟩
    · rw [Nat.zero_add, Array.getElem?_append_left (by simpa using hk)]
      simp
    · simp; omega
  refine calls_of_wp_defers hf hbody (evC_sound hE hc hd N c ρ _ _ w q _ hs h1 ?_)
  intro e a w' hp
  exact endG_sound hE hc hd hp h2
theorem evG_sound (hE : EnvOK P E) (hS : SumOK P E) (hD : ∀ call, CallOK P E.G call → DrawOK P E call) (N : Nat) : ∀ n, CallOK P E.G (evG E N n)
  | 0 => fun _ _ _ _ _ h => by cases h
  | n + 1 => fun ro f args hp r h w0 F ρ w l hr hl => by
    have ih := evG_sound hE hS hD N n
    unfold evG at h
    split at h
    · rename_i s hs
      exact hS f s hs ro hp args r h w0 F ρ w l hr hl
    · split at h <;> try (cases h; done)
      rename_i fn hfn
      exact ⟨hE.call f fn hfn ⟨l⟩, bodyG_sound hE ih (hD _ ih) (hE.fn f fn hfn) h hr hl⟩
end
end Go.Ev
