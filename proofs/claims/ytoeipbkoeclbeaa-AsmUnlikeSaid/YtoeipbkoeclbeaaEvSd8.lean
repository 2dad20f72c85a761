/- Own text: one abstract operation and the model's. -/
import Derived.Test.YtoeipbkoeclbeaaEvSd7
namespace Go.Ev
section
variable {P : Program} {ti : Nat → Option TI} {ρ : Ren} {G : Nat} {w0 : Base} {w : World} {F : Nat → Prop} {ro : RO} {hp : Hp}
/-- What an operation's outcome means. -/
def ResR (P : Program) (w0 : Base) (F : Nat → Prop) (G : Nat) (ro : RO) (hp : Hp) (ρ : Ren) (w : World) (r : Res) (out : Result Next) : Prop := match r with
  | .val v hp' => ∃ x w' ρ', out = .ok (.value x) w' ∧ ρ.le ρ' ∧ VR ρ' v x ∧ Rel w0 F G ro ρ' hp' w'
  | .skip hp' => ∃ w' ρ', out = .ok .skip w' ∧ ρ.le ρ' ∧ Rel w0 F G ro ρ' hp' w'
  | .enter f args => ∃ l, out = (callFunc f ⟨l⟩).run P w ∧ VRs ρ args l
  | .defer fn cap args => ∃ c l, out = .ok (.defer { target := .fn fn ⟨c⟩, args := ⟨l⟩ }) w ∧ VRs ρ cap c ∧ VRs ρ args l
  | .pan _ => False
theorem ofV_some {o : Option V} {r : Res} (h : (ofV hp o).run = some r) : ∃ v, o = some v ∧ r = .val v hp := by
  unfold ofV at h
  split at h <;> try (cases h; done)
  injection h with h; exact ⟨_, rfl, h.symm⟩
theorem ofT_some {t : T V} {r : Res} (h : (ofT hp t).run = some r) : ∃ v, t.run = some v ∧ r = .val v hp := by
  obtain ⟨v, h1, h2⟩ := T.run_bind_some h
  injection h2 with h2; exact ⟨v, h1, h2.symm⟩
theorem ofPairT_some {t : T (V × Hp)} {r : Res} (h : (ofPairT t).run = some r) : ∃ v hp', t.run = some (v, hp') ∧ r = .val v hp' := by
  obtain ⟨v, h1, h2⟩ := T.run_bind_some h
  injection h2 with h2; exact ⟨v.1, v.2, h1, h2.symm⟩
theorem run_v {s : Sem Value} {x : Value} {w' : World} (h : s.run P w = .ok x w') : (do pure (.value (← s)) : Sem Next).run P w = .ok (.value x) w' := by
  simp only [Sem.run_bind, h, Result.andThen_ok, Sem.run_pure]
theorem res_val (hr : Rel w0 F G ro ρ hp w) {v : V} {x : Value} {out : Result Next} (h : out = .ok (.value x) w) (hv : VR ρ v x) : ResR P w0 F G ro hp ρ w (.val v hp) out :=
  ⟨x, w, ρ, h, Ren.le.refl _, hv, hr⟩
section
variable {tmps : Tr V} {a : Act}
theorem ev1_sound (hr : Rel w0 F G ro ρ hp w) (ht : TR ρ tmps a.tmps) (hg : GR ρ G) {f : V → Option V} {x : Operand} {r : Res} (h : (ev1 G tmps hp f x).run = some r) {s : Value → Sem Value}
    (hf : ∀ u v b, VR ρ u b → f u = some v → ∃ y, (s b).run P w = .ok y w ∧ VR ρ v y) : ResR P w0 F G ro hp ρ w r ((do pure (.value (← s (a.eval x))) : Sem Next).run P w) := by
  unfold ev1 at h
  split at h <;> try (cases h; done)
  rename_i u hu
  obtain ⟨v, h1, rfl⟩ := ofV_some h
  obtain ⟨y, h2, h3⟩ := hf u v _ (opV_sound ht hg hu) h1
  exact res_val hr (run_v h2) h3
theorem ev2_sound (hr : Rel w0 F G ro ρ hp w) (ht : TR ρ tmps a.tmps) (hg : GR ρ G) {f : V → V → T V} {x y : Operand} {r : Res} (h : (ev2 G tmps hp f x y).run = some r) {s : Value → Value → Sem Value}
    (hf : ∀ u u' v b b', VR ρ u b → VR ρ u' b' → (f u u').run = some v → ∃ y, (s b b').run P w = .ok y w ∧ VR ρ v y) : ResR P w0 F G ro hp ρ w r ((do pure (.value (← s (a.eval x) (a.eval y))) : Sem Next).run P w) := by
  unfold ev2 at h
  split at h <;> try (cases h; done)
  rename_i u hu
  split at h <;> try (cases h; done)
  rename_i u' hu'
  obtain ⟨v, h1, rfl⟩ := ofT_some h
  obtain ⟨y, h2, h3⟩ := hf u u' v _ _ (opV_sound ht hg hu) (opV_sound ht hg hu') h1
  exact res_val hr (run_v h2) h3
theorem evPick_sound (hr : Rel w0 F G ro ρ hp w) (ht : TR ρ tmps a.tmps) (hg : GR ρ G) {c x y : Operand} {r : Res} (h : (evPick G tmps hp c x y).run = some r) :
    ResR P w0 F G ro hp ρ w r ((do pure (.value (if ← asBool (a.eval c) then a.eval x else a.eval y)) : Sem Next).run P w) := by
  unfold evPick at h
  split at h <;> try (cases h; done)
  rename_i c' hc0
  split at h <;> try (cases h; done)
  rename_i x' hx
  split at h <;> try (cases h; done)
  rename_i y' hy
  have hc := opV_sound ht hg hc0
  clear hc0
  have hx := opV_sound ht hg hx
  have hy := opV_sound ht hg hy
  unfold pickV at h
  split at h
  · injection h with h; subst h
    simp only [VR] at hc
    exact res_val hr (by rw [hc]; rfl) hx
  · injection h with h; subst h
    simp only [VR] at hc
    exact res_val hr (by rw [hc]; rfl) hy
  · rename_i b
    simp only [VR] at hc
    split at h
    · split at h <;> try (cases h; done)
      all_goals
        injection h with h; subst h
        simp only [VR] at hx hy
        refine res_val hr (x := .bool (bif b then _ else _)) ?_ rfl
        rw [hc, hx, hy]; cases b <;> rfl
    · split at h <;> try (cases h; done)
      all_goals
        injection h with h; subst h
        simp only [VR] at hx hy
        refine res_val hr (x := .bool (bif b then _ else _)) ?_ rfl
        rw [hc, hx, hy]; cases b <;> rfl
    · cases b
      · simp only [T.run, cond_false, Option.some.injEq] at h; subst h
        exact res_val hr (by rw [hc]; rfl) hy
      · simp only [T.run, cond_true, Option.some.injEq] at h; subst h
        exact res_val hr (by rw [hc]; rfl) hx
  · cases h
theorem nilCheckV_sound (hr : Rel w0 F G ro ρ hp w) {x : V} {b : Value} {r : Res} (hx : VR ρ x b) (h : (nilCheckV hp x).run = some r) {o : Oper} {xo : Operand} (ho : o.op = .nilCheck xo) (hb : a.eval xo = b) :
    ResR P w0 F G ro hp ρ w r ((execOp a.eval o).run P w) := by
  unfold nilCheckV at h
  split at h <;> try (cases h; done)
  · injection h with h; subst h
    refine res_val hr (x := b) ?_ hx
    obtain ⟨B, tot, n, _, rfl, _⟩ := hx
    simp only [execOp, ho, hb, Sem.run_pure]
  · split at h <;> try (cases h; done)
    injection h with h; subst h
    refine res_val hr (x := b) ?_ hx
    obtain ⟨f, c, rfl, _⟩ := hx
    simp only [execOp, ho, hb, Sem.run_pure]
theorem parts_map (l : List (Nat × Operand)) : (l.map fun p => (p.1, a.eval p.2)).map (·.1) = l.map (·.1) ∧ (l.map fun p => (p.1, a.eval p.2)).map (·.2) = l.map fun p => a.eval p.2 := by
  simp [List.map_map, Function.comp_def]
theorem optI_sound (ht : TR ρ tmps a.tmps) (hg : GR ρ G) {o : Option Operand} {r : Option I} (h : optI G tmps o = some r) : OR r (o.map a.eval) := by
  cases o with
  | none => injection h with h; subst h; trivial
  | some x =>
    simp only [optI] at h
    split at h <;> try contradiction
    rename_i k i hx
    injection h with h; subst h
    obtain ⟨n, hn, hi⟩ := opV_sound ht hg hx
    exact ⟨k, n, by simp [hn], hi⟩
theorem minMax_sound (hr : Rel w0 F G ro ρ hp w) {f : I → I → I} {g : Int → Int → Int} (hfg : ∀ i j x y, IR i x → IR j y → IR (f i j) (g x y)) {x y : V} {b c : Value} (hx : VR ρ x b) (hy : VR ρ y c) {r : Res} (h : (minMax hp f x y).run = some r) :
    ∃ k m n i, b = .int k m ∧ c = .int k n ∧ r = .val (.int k i) hp ∧ IR i (g m n) := by
  unfold minMax at h
  split at h <;> try (cases h; done)
  split at h <;> try (cases h; done)
  split at h <;> try (cases h; done)
  rename_i hk
  have hk := of_decide_eq_true hk; subst hk
  injection h with h; subst h
  obtain ⟨m, rfl, hm⟩ := hx
  obtain ⟨n, rfl, hn⟩ := hy
  exact ⟨_, m, n, _, rfl, rfl, rfl, hfg _ _ _ _ hm hn⟩
theorem imin_or (a b : Int) : imin a b = a ∨ imin a b = b := by unfold imin; split <;> simp
theorem imax_or (a b : Int) : imax a b = a ∨ imax a b = b := by unfold imax; split <;> simp
theorem IR.min2 {i j : I} {x y : Int} (hi : IR i x) (hj : IR j y) : IR (min2V i j) (if y < x then y else x) := by
  have a1 := imin_le i.lo j.lo
  have a2 := imin_or i.hi j.hi
  obtain ⟨rfl, h1, h2⟩ := hi
  obtain ⟨rfl, h3, h4⟩ := hj
  refine ⟨rfl, ?_, ?_⟩ <;> simp only [min2V] <;> split <;> omega
theorem IR.max2 {i j : I} {x y : Int} (hi : IR i x) (hj : IR j y) : IR (max2V i j) (if y > x then y else x) := by
  have a1 := imax_or i.lo j.lo
  have a2 := le_imax i.hi j.hi
  obtain ⟨rfl, h1, h2⟩ := hi
  obtain ⟨rfl, h3, h4⟩ := hj
  refine ⟨rfl, ?_, ?_⟩ <;> simp only [max2V] <;> split <;> omega
theorem evBuiltin_sound (ht : TyOK P ti) (hr : Rel w0 F G ro ρ hp w) {b : Builtin} {ts : List TypeId} {args : List V} {l : List Value} {r : Res} {ty : TypeId} {cs : Array Bool} (hl : VRs ρ args l) (h : (evBuiltin ti ro hp b ts args).run = some r) :
    ResR P w0 F G ro hp ρ w r ((builtin b ⟨ts⟩ ty cs ⟨l⟩).run P w) := by
  unfold evBuiltin at h
  split at h <;> try (cases h; done)
  · split at h <;> try (cases h; done)
    split at h <;> try (cases h; done)
    obtain ⟨v, h1, rfl⟩ := ofV_some h
    obtain ⟨x, xs, rfl, hx, _⟩ := hl
    obtain ⟨y, h2, h3⟩ := lenV_sound (P := P) ht hx h1 ty _ xs w
    exact res_val hr (run_v h2) h3
  · split at h <;> try (cases h; done)
    split at h <;> try (cases h; done)
    obtain ⟨v, hp', h1, rfl⟩ := ofPairT_some h
    obtain ⟨x, xs, rfl, hx, y, ys, rfl, hy, hz⟩ := hl
    simp only [VRs] at hz; subst hz
    obtain ⟨z, w', ρ', h2, h3, h4, h5⟩ := appendV_sound (ty := ty) ht hr hx hy h1
    exact ⟨z, w', ρ', run_v h3, h2, h4, h5⟩
  · split at h <;> try (cases h; done)
    obtain ⟨x, xs, rfl, hx, y, ys, rfl, hy, hz⟩ := hl
    simp only [VRs] at hz; subst hz
    obtain ⟨k, m, n, i, rfl, rfl, rfl, hi⟩ := minMax_sound hr (fun _ _ _ _ h h' => IR.min2 h h') hx hy h
    refine res_val hr (run_v ?_) ⟨_, rfl, hi⟩
    simp [Builtin.min_, Builtin.min2]
  · split at h <;> try (cases h; done)
    obtain ⟨x, xs, rfl, hx, y, ys, rfl, hy, hz⟩ := hl
    simp only [VRs] at hz; subst hz
    obtain ⟨k, m, n, i, rfl, rfl, rfl, hi⟩ := minMax_sound hr (fun _ _ _ _ h h' => IR.max2 h h') hx hy h
    refine res_val hr (run_v ?_) ⟨_, rfl, hi⟩
    simp [Builtin.max_, Builtin.max2]
theorem evCall_sound (ht : TyOK P ti) (hr : Rel w0 F G ro ρ hp w) (hT : TR ρ tmps a.tmps) (hg : GR ρ G) {c : Call} {r : Res} {o : Oper} (ho : o.op = .call c) (h : (evCall ti G ro tmps hp c).run = some r) :
    ResR P w0 F G ro hp ρ w r ((execOp a.eval o).run P w) := by
  have hargs : (c.args.map a.eval) = ⟨c.args.toList.map a.eval⟩ := by apply Array.ext'; simp
  unfold evCall at h
  split at h
  · rename_i f hf
    unfold evCallV at h
    split at h <;> try (cases h; done)
    rename_i fid first cap hfv
    split at h <;> try (cases h; done)
    rename_i vs hvs
    injection h with h; subst h
    obtain ⟨l1, l2, he, h1, h2⟩ := opV_sound hT hg hfv
    have h3 := opVs_sound hT hg hvs
    refine ⟨l1 ++ (c.args.toList.map a.eval ++ l2), ?_, h1.append (h3.append h2)⟩
    simp only [execOp, ho, resolve, hf, hargs, he, Deferred.ofValue, Sem.run_bind, Sem.run_pure, Result.andThen_ok, invoke]
    simp [List.append_assoc]
  · rename_i b hb
    split at h <;> try (cases h; done)
    rename_i vs hvs
    have h3 := opVs_sound hT hg hvs
    have := evBuiltin_sound (ty := o.type) (cs := c.args.map fun | .const _ => true | _ => false) ht hr h3 h
    simp only [execOp, ho, resolve, hb, hargs, Sem.run_bind, Sem.run_pure, Result.andThen_ok, invoke]
    exact this
  · cases h
theorem evDefer_sound (hT : TR ρ tmps a.tmps) (hg : GR ρ G) {c : Call} {r : Res} {o : Oper} (ho : o.op = .defer c) (h : (evDefer G tmps c).run = some r) :
    ResR P w0 F G ro hp ρ w r ((execOp a.eval o).run P w) := by
  have hargs : (c.args.map a.eval) = ⟨c.args.toList.map a.eval⟩ := by apply Array.ext'; simp
  unfold evDefer at h
  split at h <;> try (cases h; done)
  rename_i f hf
  split at h <;> try (cases h; done)
  rename_i fn first cap hfv
  split at h <;> try (cases h; done)
  rename_i vs hvs
  injection h with h; subst h
  obtain ⟨l1, l2, he, h1, h2⟩ := opV_sound hT hg hfv
  have h3 := opVs_sound hT hg hvs
  refine ⟨l2, l1 ++ c.args.toList.map a.eval, ?_, h2, h1.append h3⟩
  simp only [execOp, ho, resolve, hf, hargs, he, Deferred.ofValue, Sem.run_bind, Sem.run_pure, Result.andThen_ok]
  simp
theorem zeroV_sound (ht : TyOK P ti) {t : TypeId} {z : V} (h : zeroV ti t = some z) : ∃ v, (∀ w, (zeroValue t).run P w = .ok v w) ∧ VR ρ z v := by
  unfold zeroV at h
  split at h <;> try contradiction
  rename_i i hi
  cases hv : i.zero with
  | none => rw [hv] at h; cases h
  | some v => rw [hv] at h; exact ⟨v, ht.run_zero hi hv, constV_sound h⟩
theorem evOp_sound (ht : TyOK P ti) (hr : Rel w0 F G ro ρ hp w) (hT : TR ρ tmps a.tmps) (hg : GR ρ G) {o : Oper} {r : Res} (h : (evOp ti G ro tmps hp o).run = some r) :
    ResR P w0 F G ro hp ρ w r ((execOp a.eval o).run P w) := by
  obtain ⟨dst, op, ty, pos, after, guard⟩ := o
  unfold evOp at h
  cases op <;> simp only at h
  case move x =>
    exact ev1_sound (s := fun b => pure b) hr hT hg h (fun u v b hb hu => ⟨b, rfl, by injection hu with hu; subst hu; exact hb⟩)
  case assign x =>
    exact ev1_sound (s := fun b => pure b) hr hT hg h (fun u v b hb hu => ⟨b, rfl, by injection hu with hu; subst hu; exact hb⟩)
  case pick c x y => exact evPick_sound hr hT hg h
  case alloc e =>
    unfold evAlloc at h
    split at h <;> try (cases h; done)
    rename_i z hz
    obtain ⟨v, hp', h1, rfl⟩ := ofPairT_some h
    obtain ⟨zv, z1, z2⟩ := zeroV_sound (P := P) (ρ := ρ) ht hz
    obtain ⟨ad, w', ρ', g1, g2, g3, g4⟩ := allocV_sound (P := P) hr z2 h1 e
    refine ⟨_, w', ρ', ?_, g1, g3, g4⟩
    exact run_v (by simp only [Instr.alloc, Sem.run_bind, z1, Result.andThen_ok, g2, Sem.run_pure])
  case box e x =>
    unfold evBox at h
    split at h <;> try (cases h; done)
    rename_i z hz
    obtain ⟨v, hp', h1, rfl⟩ := ofPairT_some h
    obtain ⟨ad, w', ρ', g1, g2, g3, g4⟩ := allocV_sound (P := P) hr (opV_sound hT hg hz) h1 e
    refine ⟨_, w', ρ', ?_, g1, g3, g4⟩
    exact run_v (by simp only [Instr.box, Sem.run_bind, Result.andThen_ok, g2, Sem.run_pure])
  case build t ps =>
    unfold evBuild at h
    split at h <;> try (cases h; done)
    rename_i l hl
    obtain ⟨v, h1, rfl⟩ := ofV_some h
    obtain ⟨g1, g2⟩ := partsV_sound hT hg hl
    have hm := parts_map (a := a) ps.toList
    obtain ⟨y, h2, h3⟩ := buildV_sound (P := P) (rparts := ps.toList.map fun p => (p.1, a.eval p.2)) ht (by rw [hm.1, g1]) (by rw [hm.2]; exact g2) h1 w
    have e : (ps.map fun (i, x) => (i, a.eval x)) = (ps.toList.map fun p => (p.1, a.eval p.2)).toArray := by apply Array.ext'; simp
    refine res_val hr ?_ h3
    exact run_v (by rw [e]; exact h2)
  case buildSlice t n ps =>
    unfold evBuildSlice at h
    split at h <;> try (cases h; done)
    rename_i l hl
    obtain ⟨v, hp', h1, rfl⟩ := ofPairT_some h
    obtain ⟨g1, g2⟩ := partsV_sound hT hg hl
    have hm := parts_map (a := a) ps.toList
    obtain ⟨y, w', ρ', q1, q2, q3, q4⟩ := buildSliceV_sound (P := P) (rparts := ps.toList.map fun p => (p.1, a.eval p.2)) ht hr (by rw [hm.1, g1]) (by rw [hm.2]; exact g2) h1
    have e : (ps.map fun (i, x) => (i, a.eval x)) = (ps.toList.map fun p => (p.1, a.eval p.2)).toArray := by apply Array.ext'; simp
    refine ⟨y, w', ρ', ?_, q1, q3, q4⟩
    exact run_v (by rw [e]; exact q2)
  case load t x =>
    unfold evLoad at h
    split at h <;> try (cases h; done)
    rename_i u hu
    obtain ⟨v, h1, rfl⟩ := ofT_some h
    obtain ⟨y, h2, h3⟩ := loadV_sound (P := P) ht hr (opV_sound hT hg hu) h1
    exact res_val hr (run_v h2) h3
  case store t x y =>
    unfold evStore at h
    split at h <;> try (cases h; done)
    rename_i u hu
    split at h <;> try (cases h; done)
    rename_i u' hu'
    obtain ⟨hp', h1, h2⟩ := T.run_bind_some h
    injection h2 with h2; subst h2
    obtain ⟨w', h3, h4⟩ := storeV_sound (P := P) ht hr (opV_sound hT hg hu) (opV_sound hT hg hu') h1
    refine ⟨w', ρ, ?_, Ren.le.refl _, h4⟩
    simp only [execOp, Sem.run_bind, h3, Result.andThen_ok, Sem.run_pure]
  case nilCheck x =>
    split at h <;> try (cases h; done)
    rename_i u hu
    exact nilCheckV_sound hr (opV_sound hT hg hu) h rfl rfl
  case binOp op t x y z =>
    refine ev2_sound (s := fun b c => do eqGuard op t x y b c; binOp op t b c) hr hT hg h (fun u u' v b c hb hc hv => ?_)
    obtain ⟨q, h1, h2, h3⟩ := binV_sound (P := P) ht hb hc hv x y rfl w
    exact ⟨q, by simp only [Sem.run_bind, h1, Result.andThen_ok, h2], h3⟩
  case unOp op t x =>
    exact ev1_sound (s := fun b => Op.unary op b) hr hT hg h (fun u v b hb hu => unV_sound hb hu w)
  case convert s d x =>
    unfold evConv at h
    split at h
    · exact ev1_sound (s := fun b => Go.convert s d b) hr hT hg h (fun u v b hb hu => bytesV_sound ht hr hb hu)
    · exact ev1_sound (s := fun b => Go.convert s d b) hr hT hg h (fun u v b hb hu => convV_sound ht hb hu w)
  case makeInterface t x =>
    refine ev1_sound (s := fun b => Instr.makeInterface t b) hr hT hg h (fun u v b hb hu => ?_)
    unfold ifaceV at hu
    split at hu <;> try contradiction
    rename_i i hi
    obtain ⟨h1, rfl⟩ := onlyIf_some hu
    refine ⟨_, ?_, _, rfl, hb⟩
    simp only [Instr.makeInterface, Sem.run_bind, ht.run_und hi, Result.andThen_ok]
    cases hd : i.und <;> rw [hd] at h1 <;> first | rfl | cases h1
  case makeFunc fn first cap =>
    unfold evFunc at h
    split at h <;> try (cases h; done)
    rename_i l1 h1
    split at h <;> try (cases h; done)
    rename_i l2 h2
    injection h with h; subst h
    have e1 : (first.map a.eval) = ⟨first.toList.map a.eval⟩ := by apply Array.ext'; simp
    have e2 : (cap.map a.eval) = ⟨cap.toList.map a.eval⟩ := by apply Array.ext'; simp
    refine res_val hr (x := .func fn ⟨first.toList.map a.eval⟩ ⟨cap.toList.map a.eval⟩) ?_ ⟨_, _, rfl, opVs_sound hT hg h1, opVs_sound hT hg h2⟩
    exact run_v (by rw [e1, e2]; rfl)
  case makeSlice t l c =>
    unfold evMake at h
    split at h <;> try (cases h; done)
    rename_i k1 i1 h1
    split at h <;> try (cases h; done)
    rename_i k2 i2 h2
    obtain ⟨v, hp', h3, rfl⟩ := ofPairT_some h
    obtain ⟨n1, e1, hn1⟩ := opV_sound hT hg h1
    obtain ⟨n2, e2, hn2⟩ := opV_sound hT hg h2
    obtain ⟨y, w', ρ', q1, q2, q3, q4⟩ := makeSliceV_sound (P := P) (k1 := k1) (k2 := k2) ht hr hn1 hn2 h3
    refine ⟨y, w', ρ', ?_, q1, q3, q4⟩
    exact run_v (by rw [e1, e2]; exact q2)
  case slice t x lo hi mx =>
    unfold evSlice at h
    split at h <;> try (cases h; done)
    split at h <;> try (cases h; done)
    rename_i u hu
    split at h <;> try (cases h; done)
    rename_i l hl
    split at h <;> try (cases h; done)
    rename_i m hm
    obtain ⟨v, h1, rfl⟩ := ofT_some h
    obtain ⟨y, h2, h3⟩ := sliceV_sound (P := P) ht (opV_sound hT hg hu) (optI_sound hT hg hl) (optI_sound hT hg hm) h1 w
    exact res_val hr (run_v h2) h3
  case fieldAddr s x f =>
    exact ev1_sound (s := fun b => Instr.fieldAt s b f) hr hT hg h (fun u v b hb hu => fieldAddrV_sound ht hb hu w)
  case field t x f =>
    exact ev1_sound (s := fun b => Instr.field t b f) hr hT hg h (fun u v b hb hu => fieldV_sound ht hb hu w)
  case indexAddr t x i =>
    exact ev2_sound (s := fun b c => Instr.indexAt t b c) hr hT hg h (fun u u' v b c hb hc hv => indexAddrV_sound ht hb hc hv w)
  case index t x i =>
    exact ev2_sound (s := fun b c => Instr.index t b c) hr hT hg h (fun u u' v b c hb hc hv => indexV_sound ht hb hc hv w)
  case extract x i =>
    unfold evExtract at h
    split at h <;> try (cases h; done)
    rename_i vs hvs
    obtain ⟨v, h1, rfl⟩ := ofV_some h
    obtain ⟨l, he, hl⟩ := opV_sound hT hg hvs
    obtain ⟨y, h2, h3⟩ := hl.get h1
    refine res_val hr (x := y) (run_v ?_) h3
    simp [he, Instr.extract, h2]
  case call c => exact evCall_sound ht hr hT hg rfl h
  case defer c => exact evDefer_sound hT hg rfl h
  all_goals cases h
end
end
end Go.Ev
