/- Own text: that a function on abstract values says what the model's function does. -/
import Derived.Test.YtoeipbkoeclbeaaEvSd9
namespace Go.Ev
def SumOK (P : Program) (E : Env) : Prop := ∀ f s, E.sm f = some s → ∀ ro hp args r, (s ro hp args).run = some r → ∀ (w0 : Base) (F : Nat → Prop) (ρ : Ren) (w : World) (l : List Value), Rel w0 F E.G ro ρ hp w → VRs ρ args l →
  (∀ w, (callFunc f ⟨l⟩).run P w = .ok (.enter f ⟨l⟩) w) ∧ Calls P f ⟨l⟩ w (EndR w0 F E.G ro ρ r)
section
variable {P : Program} {E : Env} {ρ : Ren} {w0 : Base} {w : World} {F : Nat → Prop} {ro : RO} {st : St} {a : Act} {nt : Nat}
theorem tmpsOf_sound {arr : Array Value} : ∀ {vs : List V} {l : List Value} {m : Tr V} {i : Nat}, VRs ρ vs l → TR ρ m arr → (∀ k, k < l.length → arr[i + k]? = l[k]?) → TR ρ (tmpsOf m i vs) arr
  | [], _, m, i, _, hm, _ => hm
  | v :: vs, _, m, i, ⟨x, xs, h1, h2, h3⟩, hm, ha => by
    subst h1
    refine tmpsOf_sound (vs := vs) (i := i + 1) h3 (fun t u hu => ?_) (fun k hk => ?_)
    · rw [Tr.get_set] at hu
      split at hu
      · rename_i e; subst e; injection hu with hu; subst hu
        have := ha 0 (by simp)
        simp only [Nat.add_zero, List.getElem?_cons_zero] at this
        rw [Array.getD_eq_getD_getElem?, this]
        exact h2
      · exact hm t u hu
    · have := ha (k + 1) (by simpa using hk)
      rw [show i + 1 + k = i + (k + 1) by omega, this]
      rfl
theorem res1_sound (hE : EnvOK P E) (hs : SR w0 F E.G ro nt ρ st a w) {rv : ResultVar} {v : V} (h : (res1 E ro st rv).run = some v) :
    ∃ x, (match rv with | .tmp t => pure (a.tmps.getD t undef) | .cell b t => do loadVar t (← asAddr (a.tmps.getD b undef)) : Sem Value).run P w = .ok x w ∧ VR ρ v x := by
  cases rv with
  | tmp t =>
    injection h with h; subst h
    exact ⟨_, rfl, tmpV_sound hs.tr t⟩
  | cell b t =>
    have hp := tmpV_sound hs.tr b
    obtain ⟨x, h1, h2⟩ := loadV_sound (P := P) hE.ty hs.rel hp h
    refine ⟨x, ?_, h2⟩
    change (do loadVar t (← asAddr (a.tmps.getD b undef)) : Sem Value).run P w = .ok x w
    generalize a.tmps.getD b undef = y at h1 ⊢
    cases y <;> first | (cases h1; done) | skip
    rename_i o
    cases o <;> first | (cases h1; done) | skip
    exact h1
theorem resV_sound (hE : EnvOK P E) (hs : SR w0 F E.G ro nt ρ st a w) : ∀ {l : List ResultVar} {vs : List V}, (resV E ro st l).run = some vs →
    ∃ xs, (l.mapM fun rv => (match rv with | .tmp t => pure (a.tmps.getD t undef) | .cell b t => do loadVar t (← asAddr (a.tmps.getD b undef)) : Sem Value)).run P w = .ok xs w ∧ VRs ρ vs xs
  | [], _, h => by injection h with h; subst h; exact ⟨[], rfl, rfl⟩
  | rv :: l, vs, h => by
    obtain ⟨v, h1, h2⟩ := T.run_bind_some h
    obtain ⟨q, h3, h4⟩ := T.run_bind_some h2
    injection h4 with h4; subst h4
    obtain ⟨x, e1, e2⟩ := res1_sound (P := P) hE hs h1
    obtain ⟨xs, e3, e4⟩ := resV_sound hE hs h3
    refine ⟨x :: xs, ?_, x, xs, rfl, e2, e4⟩
    simp only [List.mapM_cons, Sem.run_bind, e1, Result.andThen_ok, e3, Sem.run_pure]
theorem results_sound (hE : EnvOK P E) (hs : SR w0 F E.G ro nt ρ st a w) {fn : Func} {vs : List V} (h : (resV E ro st fn.results.toList).run = some vs) :
    ∃ x, (results fn a.tmps).run P w = .ok x w ∧ VR ρ (resOne vs) x := by
  obtain ⟨xs, h1, h2⟩ := resV_sound hE hs h
  unfold results
  rw [Array.mapM_eq_mapM_toList]
  simp only [Sem.run_bind, Sem.run_map]
  generalize hg : Sem.run P (List.mapM _ fn.results.toList) w = res
  have hres : res = .ok xs w := hg.symm.trans h1
  subst hres
  clear hg h1
  simp only [Result.andThen_ok, Sem.run_pure]
  match vs, xs, h2 with
  | [], _, h2 => simp only [VRs] at h2; subst h2; exact ⟨_, rfl, [], rfl, rfl⟩
  | [v], _, ⟨x, xs, e, hx, hxs⟩ => simp only [VRs] at hxs; subst hxs; subst e; exact ⟨x, by simp, hx⟩
  | v :: v' :: vs, _, ⟨x, xs, e, hx, hxs⟩ =>
    have hxs' := hxs
    obtain ⟨y, ys, e', hy, hys⟩ := hxs
    subst e'; subst e
    refine ⟨.tuple ⟨x :: y :: ys⟩, by simp, ?_⟩
    exact ⟨_, rfl, x, _, rfl, hx, hxs'⟩
theorem endF_sound (hE : EnvOK P E) {fn : Func} {q : X × St} {r : AEnd × Hp} {e : Exit} {a : Act} {w' : World} (hp : PX w0 F E.G ro nt ρ q e a w') (h2 : (endF E ro fn q).run = some r) : bodyPost P fn (EndR w0 F E.G ro ρ r) e a w' := by
  obtain ⟨ρ', k1, k2, k3⟩ := hp
  unfold endF at h2
  split at h2 <;> try (cases h2; done)
  rename_i hdf
  have hde : a.defers = [] := by have := k2.dr; rw [hdf] at this; exact this
  obtain ⟨x, st'⟩ := q
  have fin : ((resV E ro st' fn.results.toList).bind (fun l => T.ret (AEnd.ret (resOne l), st'.hp))).run = some r → a.defers = [] ∧ ∃ v, (results fn a.tmps).run P w' = .ok v w' ∧ EndR w0 F E.G ro ρ r (.returned v) w' := by
    intro h
    obtain ⟨vs, g1, g2⟩ := T.run_bind_some h
    injection g2 with g2; subst g2
    obtain ⟨y, g3, g4⟩ := results_sound (P := P) hE k2 g1
    exact ⟨hde, y, g3, ρ', k1, k2.rel, y, rfl, g4⟩
  cases x <;> simp only [XR] at k3
  · subst k3; exact fin h2
  · cases h2
  · subst k3; exact fin h2
  · obtain ⟨y, rfl, hy⟩ := k3
    injection h2 with h2; subst h2
    exact ⟨hde, ρ', k1, k2.rel, y, rfl, hy⟩
theorem bodyF_sound (hE : EnvOK P E) {call : CallF} (hc : CallOK P E.G call) (hd : DrawOK P E call) {f N : Nat} {fn : Func} {args : List V} {hp : Hp} {r : AEnd × Hp} {l : List Value} (hf : P.funcs[f]? = some fn)
    (h : (bodyF E N call ro fn args hp).run = some r) (hr : Rel w0 F E.G ro ρ hp w) (hl : VRs ρ args l) : Calls P f ⟨l⟩ w (EndR w0 F E.G ro ρ r) := by
  unfold bodyF at h
  split at h <;> try (cases h; done)
  rename_i c hbody
  split at h <;> try (cases h; done)
  rename_i hn
  have hn := Nat.le_of_ble_eq_true hn
  obtain ⟨q, h1, h2⟩ := T.run_bind_some h
  have hll := hl.length
  have hs : SR w0 F E.G ro fn.ntmps ρ ⟨tmpsOf .lf 0 args, [], hp⟩ { tmps := (⟨l⟩ : Array Value) ++ Array.replicate (fn.ntmps - (⟨l⟩ : Array Value).size) undef, defers := [] } w := by
    refine ⟨hr, tmpsOf_sound hl (fun t v hv => by cases hv) (fun k hk => ?_), rfl, ?_⟩
    · rw [Nat.zero_add, Array.getElem?_append_left (by simpa using hk)]
      simp
    · simp; omega
  refine calls_of_wp hf hbody (evC_sound hE hc hd N c ρ _ _ w q _ hs h1 ?_)
  intro e a w' hp
  exact endF_sound hE hp h2
theorem evF_sound (hE : EnvOK P E) (hS : SumOK P E) (hD : ∀ call, CallOK P E.G call → DrawOK P E call) (N : Nat) : ∀ n, CallOK P E.G (evF E N n)
  | 0 => fun _ _ _ _ _ h => by cases h
  | n + 1 => fun ro f args hp r h w0 F ρ w l hr hl => by
    have ih := evF_sound hE hS hD N n
    unfold evF at h
    split at h
    · rename_i s hs
      exact hS f s hs ro hp args r h w0 F ρ w l hr hl
    · split at h <;> try (cases h; done)
      rename_i fn hfn
      exact ⟨hE.call f fn hfn ⟨l⟩, bodyF_sound hE ih (hD _ ih) (hE.fn f fn hfn) h hr hl⟩
end
end Go.Ev
