/- Own text: the loop of AsmUnlike that looks for a text among those before: what it does in the world. -/
import Derived.Test.YtoeipbkoeclbeaaLoop
namespace Go.Proofs.Ytoeipbkoeclbeaa
open Go.Ev Go.Ev.Tr Go.Proofs
theorem envOK : EnvOK Try.prog env := envOK_of tysOK fnsOK mixedOK
theorem noCallOK : CallOK Try.prog 0 noCall := fun _ _ _ _ _ h => by cases h
structure LPOK (p : LP) (k : Int) : Prop where
  k0 : 0 ≤ k
  km : k ≤ p.m
  mb : p.m ≤ big
  ms : p.m = p.ss.length
  ne : ∀ i, i < p.ss.length → (p.ss.getD i [] == p.s) = false
  u0 : V.under 0 p.v0 = true
  u2 : V.under 0 p.v2 = true
theorem under_le {n m : Nat} (h : n ≤ m) : ∀ {v : V}, V.under n v = true → ∀ {ρ : Ren} {x : Value}, VR ρ v x → VR ρ v x := fun _ _ _ h => h
section
variable {wb : Base} {F0 : Nat → Prop} {p : LP} {k : Int} {a : Act} {w : World} {ρc : Ren}
/-- One round. -/
theorem bodyStep (hp : LPOK p k) (hs : SR wb F0 0 (roC p.ss p.s) 47 ρc (stK p k) a w) :
    IB.wp Try.prog (fun e a' w' => (e = .normal ∧ k < p.m ∧ SR wb F0 0 (roC p.ss p.s) 47 ρc (stK p (k + 1)) a' w') ∨ (e = .exit 2 ∧ SR wb F0 0 (roC p.ss p.s) 47 ρc (stK p k) a' w')) a w := by
  have hv : ∀ id b, hpK.at (roC p.ss p.s) id = some b → hpK.at (roC p.ss p.s) id = some b := fun _ _ h => h
  have hr1 : Rel ⟨w, ρc, hpK.nxt⟩ (OwnB ρc hpK) 0 (roC p.ss p.s) ρc hpK w := hs.rel.rebase hv (fun id b h => by cases h) (fun id i1 i2 => hs.rel.fresh id i1 i2)
  have hs1 : SR ⟨w, ρc, hpK.nxt⟩ (OwnB ρc hpK) 0 (roC p.ss p.s) 47 ρc (stK p k) a w := ⟨hr1, hs.tr, hs.dr, hs.nt⟩
  -- back to what was known
  have back : ∀ {st' : St} {a' : Act} {w' : World} {ρ' : Ren} {k' : Int}, SR ⟨w, ρc, hpK.nxt⟩ (OwnB ρc hpK) 0 (roC p.ss p.s) 47 ρ' st' a' w' → st'.dfr = [] →
      st'.tmps.get 0 = some p.v0 → st'.tmps.get 1 = some (.slice 0 1 (I.lit 0) ⟨p.m, 0, big⟩ p.clo p.chi) → st'.tmps.get 2 = some p.v2 → st'.tmps.get 3 = some (.ptr 1 (I.lit 0)) → (∃ i, st'.tmps.get 5 = some (.int .i64 i) ∧ i.n = k') → 0 ≤ k' → k' ≤ big →
      SR wb F0 0 (roC p.ss p.s) 47 ρc (stK p k') a' w' := by
    intro st' a' w' ρ' k' h hd h0 h1 h2 h3 h5 hk0 hkb
    have hun : ∀ id x, ρ' id = some x → id < 2 → ρc id = some x := fun id x hx hlt => by
      rcases h.rel.ren id x hx with q | q
      · exact q
      · have : 2 ≤ id := q.1
        omega
    have hun0 : ∀ id x, ρ' id = some x → id < 0 → ρc id = some x := fun id x hx hlt => by omega
    refine ⟨hs.rel.looked hv (fun _ => rfl) h.rel, fun t v ht => ?_, ?_, h.nt⟩
    · simp only [stK, tmK, Tr.get_set] at ht
      split at ht
      · rename_i e; subst e; injection ht with ht; subst ht
        exact under_mono hun0 _ _ hp.u2 (h.tr 2 _ h2)
      · split at ht
        · rename_i e; subst e; injection ht with ht; subst ht
          exact under_mono hun0 _ _ hp.u0 (h.tr 0 _ h0)
        · split at ht
          · rename_i e; subst e; injection ht with ht; subst ht
            obtain ⟨i, hi, hin⟩ := h5
            obtain ⟨n, hn, hir⟩ := h.tr 5 _ hi
            exact ⟨n, hn, by rw [hir.1]; exact hin, by rw [hir.1, hin]; exact hk0, by rw [hir.1, hin]; exact hkb⟩
          · split at ht
            · rename_i e; subst e; injection ht with ht; subst ht
              exact under_mono hun _ _ rfl (h.tr 3 _ h3)
            · split at ht
              · rename_i e; subst e; injection ht with ht; subst ht
                exact under_mono hun _ _ rfl (h.tr 1 _ h1)
              · cases ht
    · have hdr := h.dr
      rw [hd] at hdr
      exact hdr
  by_cases hkm : k < p.m
  · have hpath := congrFun (congrFun bodyGo p) k
    obtain ⟨⟨cs, x, st'⟩, hq, hview⟩ := Option.map_eq_some_iff.1 hpath
    simp only [view, Prod.mk.injEq] at hview
    obtain ⟨⟨hcs, hx, g0, g1, g2, g3, g5⟩, hd⟩ := hview
    have hk0 := hp.k0
    have hms := hp.ms
    have hkn : k.toNat < p.ss.length := by omega
    have hbs : cs = [true, true, true, false] := by
      rw [hcs, hp.ne k.toNat hkn, decide_eq_true hkm, decide_eq_true (show 0 ≤ k ∧ k < p.m from ⟨hk0, hkm⟩), decide_eq_true (show 0 ≤ k ∧ k < p.ss.length from ⟨hk0, by omega⟩)]
    rw [hbs] at hq
    have hrun := T.path_run hq
    refine evC_sound envOK noCallOK (evDraw_sound envOK noCallOK) 100 IB ρc (stK p k) a w (x, st') _ hs1 hrun fun e a' w' ⟨ρ', _, k2, k3⟩ => ?_
    subst hx
    simp only [XR] at k3
    subst k3
    exact .inl ⟨rfl, hkm, back k2 hd g0 g1 g2 g3 ⟨_, g5, rfl⟩ (by omega) (by have := hp.mb; omega)⟩
  · have hpath := congrFun (congrFun bodyEnd p) k
    obtain ⟨⟨cs, x, st'⟩, hq, hview⟩ := Option.map_eq_some_iff.1 hpath
    simp only [view, Prod.mk.injEq] at hview
    obtain ⟨⟨hcs, hx, g0, g1, g2, g3, g5⟩, hd⟩ := hview
    rw [decide_eq_false hkm] at hcs
    rw [hcs] at hq
    have hrun := T.path_run hq
    refine evC_sound envOK noCallOK (evDraw_sound envOK noCallOK) 100 IB ρc (stK p k) a w (x, st') _ hs1 hrun fun e a' w' ⟨ρ', _, k2, k3⟩ => ?_
    subst hx
    simp only [XR] at k3
    subst k3
    exact .inr ⟨rfl, back k2 hd g0 g1 g2 g3 ⟨_, g5, rfl⟩ hp.k0 (by have := hp.mb; have := hp.km; omega)⟩
theorem B2_eq : B2 = .block 2 (.loop IB) := rfl
/-- The loop. -/
theorem loopStep (hp : LPOK p 0) (hs : SR wb F0 0 (roC p.ss p.s) 47 ρc (stK p 0) a w) :
    B2.wp Try.prog (fun e a' w' => e = .normal ∧ ∃ k, SR wb F0 0 (roC p.ss p.s) 47 ρc (stK p k) a' w') a w := by
  rw [B2_eq]
  refine wp_block ?_
  have key : ∀ (n : Nat) (k : Int) (a : Act) (w : World), LPOK p k → (p.m - k).toNat < n → SR wb F0 0 (roC p.ss p.s) 47 ρc (stK p k) a w →
      Code.rounds Try.prog IB (Exit.inBlock 2 (fun e a' w' => e = .normal ∧ ∃ k, SR wb F0 0 (roC p.ss p.s) 47 ρc (stK p k) a' w')) n a w := by
    intro n
    induction n with
    | zero => intro k a w _ h _; omega
    | succ n ih =>
      intro k a w hk hn hs
      refine wp_mono (bodyStep hk hs) fun e a' w' h => ?_
      rcases h with ⟨rfl, hkm, h⟩ | ⟨rfl, h⟩
      · exact ih (k + 1) a' w' { hk with k0 := by have := hk.k0; omega, km := by omega } (by omega) h
      · exact ⟨rfl, k, h⟩
  exact wp_loop_rounds _ (key ((p.m - 0).toNat + 1) 0 a w hp (by omega) hs)
end
/-! ### the loop, told -/
def neStr (s : List I) : V → Bool
  | .str a => match eqStr a s with
    | some (.bool false) => true
    | _ => false
  | _ => false
def allNe (s : List I) : List V → Bool
  | [] => true
  | v :: vs => neStr s v && allNe s vs
def textOf : Option Blk → Option (List I)
  | some (.cells [.str s, _, _, _]) => some s
  | _ => none
def rowOf : Option Blk → Option (List V)
  | some (.vec cs) => some cs
  | _ => none
def ptrOf : Option V → Option Nat
  | some (.ptr b o) => match litI o with
    | some 0 => some b
    | _ => none
  | _ => none
def okSl (cs : List V) (es : Nat) (o len : I) : Bool := match litI o with
  | some 0 => match litI len with
    | some m => Nat.beq es 1 && Nat.beq m cs.length && Nat.ble m 1000000
    | none => false
  | _ => false
def knows (ro : RO) (st : St) (t1 : V) : Option (Nat × Nat) := match t1 with
  | .slice b es o len _ _ => match rowOf (st.hp.at ro b) with
    | some cs => match ptrOf (st.tmps.get 3) with
      | some b3 => match textOf (st.hp.at ro b3) with
        | some s => match okSl cs es o len && allNe s cs with
          | true => some (b, b3)
          | false => none
        | none => none
      | none => none
    | none => none
  | _ => none
def tmAfter (v0 v2 t1 t3 : V) : Tr V := (((Tr.lf.set 1 (some t1)).set 3 (some t3)).set 0 (some v0)).set 2 (some v2)
def zero5 : V → Bool
  | .int k i => match litI i with
    | some 0 => decide (k = .i64)
    | _ => false
  | _ => false
def told (ro : RO) (st : St) (v0 v2 t1 t3 t5 : V) : T (X × St) := match st.dfr with
  | [] => match V.under 0 v0 && V.under 0 v2 && zero5 t5 with
    | true => match knows ro st t1 with
      | some _ => .ret (.normal, ⟨tmAfter v0 v2 t1 t3, [], st.hp⟩)
      | none => .fail
    | false => .fail
  | _ :: _ => .fail
noncomputable def hookB2 (ro : RO) (st : St) : T (X × St) := match st.tmps.get 1 with
  | some .nils => evC env ro noCall 47 100 B2 st
  | some t1 => match st.tmps.get 3 with
    | some t3 => match st.tmps.get 0 with
      | some v0 => match st.tmps.get 2 with
        | some v2 => match st.tmps.get 5 with
          | some t5 => told ro st v0 v2 t1 t3 t5
          | none => .fail
        | none => .fail
      | none => .fail
    | none => .fail
  | none => .fail
theorem allNe_sound {ρ : Ren} {s : List I} (hs : BOk s) : ∀ {cs : List V} {l : List Value}, allNe s cs = true → VRs ρ cs l → ∃ ss, strsOf cs = some ss ∧ ss.length = cs.length ∧ ∀ i, i < ss.length → (ss.getD i [] == s.map Ev.byteOf) = false
  | [], _, _, _ => ⟨[], rfl, rfl, fun i h => by simp at h⟩
  | v :: vs, l, h, ⟨x, xs, h1, h2, h3⟩ => by
    simp only [allNe, Bool.and_eq_true] at h
    obtain ⟨ss, e1, e2, e3⟩ := allNe_sound hs h.2 h3
    have hne := h.1
    unfold neStr at hne
    split at hne <;> try (cases hne; done)
    rename_i a
    split at hne <;> try (cases hne; done)
    rename_i he
    obtain ⟨_, hb⟩ := h2
    have := eqStr_sound (ρ := ρ) hb hs he
    simp only [VR, Value.bool.injEq] at this
    refine ⟨a.map Ev.byteOf :: ss, by simp only [strsOf, e1], by simp [e2], fun i hi => ?_⟩
    cases i with
    | zero => simpa using this
    | succ i => simp at hi ⊢; simpa using e3 i hi
theorem hookOK (w0 : Base) (F : Nat → Prop) (ro : RO) : HookOK Try.prog env w0 F ro 47 B2 (hookB2 ro) := by
  intro ρ st a w r hs h
  unfold hookB2 at h
  split at h
  · exact evC_sound envOK noCallOK (evDraw_sound envOK noCallOK) 100 B2 ρ st a w r _ hs h fun _ _ _ hp => hp
  · rename_i t1 _ ht1
    split at h <;> try (cases h; done)
    rename_i t3 ht3
    split at h <;> try (cases h; done)
    rename_i v0 hv0
    split at h <;> try (cases h; done)
    rename_i v2 hv2
    split at h <;> try (cases h; done)
    rename_i t5 ht5
    unfold told at h
    split at h <;> try (cases h; done)
    rename_i hdfr
    split at h <;> try (cases h; done)
    rename_i hu
    simp only [Bool.and_eq_true] at hu
    split at h <;> try (cases h; done)
    rename_i bb hkn
    injection h with h; subst h
    cases t1 <;> simp only [knows, reduceCtorEq] at hkn
    rename_i b es o len clo chi _
    split at hkn <;> try contradiction
    rename_i cs hrow
    split at hkn <;> try contradiction
    rename_i b3 hptr
    split at hkn <;> try contradiction
    rename_i s htext
    split at hkn <;> try contradiction
    rename_i hok
    simp only [Bool.and_eq_true] at hok
    obtain ⟨hsl, hne⟩ := hok
    -- the slice
    have hblk : st.hp.at ro b = some (.vec cs) := by
      unfold rowOf at hrow
      split at hrow <;> try contradiction
      rename_i hx
      injection hrow with hrow; subst hrow; exact hx
    have hptr' : ∃ o3, t3 = .ptr b3 o3 ∧ litI o3 = some 0 := by
      rw [ht3] at hptr
      unfold ptrOf at hptr
      split at hptr <;> try contradiction
      rename_i b' o' e
      injection e with e
      split at hptr <;> try contradiction
      rename_i hl
      injection hptr with hptr; subst hptr
      exact ⟨o', e, hl⟩
    obtain ⟨o3, rfl, ho3⟩ := hptr'
    have hcell : ∃ x y z, st.hp.at ro b3 = some (.cells [.str s, x, y, z]) := by
      unfold textOf at htext
      split at htext <;> try contradiction
      rename_i hx
      injection htext with htext; subst htext
      exact ⟨_, _, _, hx⟩
    obtain ⟨x, y, z, hcell⟩ := hcell
    unfold okSl at hsl
    split at hsl <;> try (cases hsl; done)
    rename_i ho
    split at hsl <;> try (cases hsl; done)
    rename_i m hm
    simp only [Bool.and_eq_true] at hsl
    have hes := Nat.eq_of_beq_eq_true hsl.1.1
    have hml := Nat.eq_of_beq_eq_true hsl.1.2
    have hmb := Nat.le_of_ble_eq_true hsl.2
    subst hes
    obtain ⟨B, tot, ob, k1, k2, k3, _⟩ := hs.rel.blk b _ hblk
    obtain ⟨B3, tot3, ob3, q1, q2, q3, _⟩ := hs.rel.blk b3 _ hcell
    have hT1 := hs.tr 1 _ ht1
    have hT3 := hs.tr 3 _ ht3
    obtain ⟨B', tot', n', len', cap', g1, g2, g3, g4, g5, g6, g7, g8⟩ := hT1
    rw [k1] at g1
    obtain ⟨rfl, rfl⟩ := Prod.mk.inj (Option.some.inj g1)
    have en := litI_sound ho g3
    have el := litI_sound hm g4
    subst en; subst el
    obtain ⟨B3', tot3', n3, j1, j2, j3⟩ := hT3
    rw [q1] at j1
    obtain ⟨rfl, rfl⟩ := Prod.mk.inj (Option.some.inj j1)
    have en3 := litI_sound ho3 j3
    subst en3
    obtain ⟨row, row', t, fz, rfl, c1, c2, c3⟩ := k3
    obtain ⟨row3, t3', fz3, rfl, d1, d2, d3⟩ := q3
    have hstr := d1
    obtain ⟨sv, rest, rfl, ⟨rfl, hbok⟩, hrest⟩ := hstr
    obtain ⟨ss, e1, e2, e3⟩ := allNe_sound (ρ := ρ) hbok hne c1
    have hcl := c1.length
    -- what the loop knows
    let p : LP := ⟨ss, s.map Ev.byteOf, v0, v2, len', clo, chi⟩
    let ρc : Ren := fun id => if id = 0 then some (B, tot) else if id = 1 then some (B3, tot3) else none
    let wb : Base := ⟨w, ρc, 2⟩
    have hrc : Rel wb (fun _ => False) 0 (roC p.ss p.s) ρc hpK w := by
      refine ⟨fun id bl hb => ?_, fun i j bl cl D u u' hi hj r1 r2 => ?_, fun id bl hb => (by cases hb), fun id i1 i2 => ?_, fun _ _ _ => rfl, Nat.le_refl _, rfl, rfl, rfl, fun g hg => absurd hg (Nat.not_lt_zero g), fun id u hu => .inl hu, Nat.le_refl _⟩
      · have hb' : roC p.ss p.s id = some bl := hb
        unfold roC at hb'
        split at hb'
        · rename_i e
          have e := Nat.eq_of_beq_eq_true e
          subst e
          injection hb' with hb'; subst hb'
          refine ⟨B, tot, _, rfl, k2, ⟨row ++ row', t, fz, rfl, c2, fun i hi => ?_, c3⟩, .inl rfl⟩
          have hi' : i < ss.length := hi
          have := strsOf_get e1 c1 hi'
          rw [List.getElem?_append_left (by omega), this]
          simp [List.getD_eq_getElem?_getD, hi', p]
        · split at hb'
          · rename_i e
            have e := Nat.eq_of_beq_eq_true e
            subst e
            injection hb' with hb'; subst hb'
            refine ⟨B3, tot3, _, rfl, q2, ⟨_, t3', fz3, rfl, ?_, d2, d3⟩, .inl rfl⟩
            obtain ⟨x1, r1, rfl, _, x2, r2, rfl, _, x3, r3, rfl, _, hn⟩ := hrest
            simp only [VRs] at hn; subst hn
            exact ⟨_, _, rfl, rfl, x1, _, rfl, trivial, x2, _, rfl, trivial, x3, [], rfl, trivial, rfl⟩
          · cases hb'
      · have known : ∀ i bl, hpK.at (roC p.ss p.s) i = some bl → i = 0 ∨ i = 1 := fun i bl hb => by
          have hb' : roC p.ss p.s i = some bl := hb
          unfold roC at hb'
          split at hb'
          · rename_i e; exact .inl (Nat.eq_of_beq_eq_true e)
          · split at hb'
            · rename_i e; exact .inr (Nat.eq_of_beq_eq_true e)
            · cases hb'
        have hBB : B ≠ B3 := fun e => by
          subst e
          have := hs.rel.inj b b3 _ _ _ _ _ hblk hcell k1 q1
          subst this
          rw [hblk] at hcell; cases hcell
        rcases known i bl hi with rfl | rfl <;> rcases known j cl hj with rfl | rfl
        · rfl
        · have r1 : some (B, tot) = some (D, u) := r1
          have r2 : some (B3, tot3) = some (D, u') := r2
          obtain ⟨rfl, _⟩ := Prod.mk.inj (Option.some.inj r1)
          obtain ⟨e, _⟩ := Prod.mk.inj (Option.some.inj r2)
          exact absurd e.symm hBB
        · have r1 : some (B3, tot3) = some (D, u) := r1
          have r2 : some (B, tot) = some (D, u') := r2
          obtain ⟨rfl, _⟩ := Prod.mk.inj (Option.some.inj r1)
          obtain ⟨e, _⟩ := Prod.mk.inj (Option.some.inj r2)
          exact absurd e hBB
        · rfl
      · have i1 : 2 ≤ id := i1
        show (if id = 0 then some (B, tot) else if id = 1 then some (B3, tot3) else none) = none
        rw [if_neg (by omega), if_neg (by omega)]
    have hT5 : a.tmps.getD 5 undef = .int .i64 0 := by
      have h5 := hs.tr 5 _ ht5
      have hz := hu.2
      unfold zero5 at hz
      split at hz <;> try (cases hz; done)
      split at hz <;> try (cases hz; done)
      rename_i hl
      have hk := of_decide_eq_true hz
      obtain ⟨n5, e5, r5⟩ := h5
      have := litI_int hl r5
      rw [e5, hk, this]; rfl
    have hst : SR wb (fun _ => False) 0 (roC p.ss p.s) 47 ρc (stK p 0) a w := by
      refine ⟨hrc, fun u v hv => ?_, by have := hs.dr; rw [hdfr] at this; exact this, hs.nt⟩
      simp only [stK, tmK, Tr.get_set] at hv
      split at hv
      · rename_i e; subst e; injection hv with hv; subst hv
        exact under_mono (n := 0) (fun id x _ hlt => by omega) _ _ hu.1.2 (hs.tr 2 _ hv2)
      · split at hv
        · rename_i e; subst e; injection hv with hv; subst hv
          exact under_mono (n := 0) (fun id x _ hlt => by omega) _ _ hu.1.1 (hs.tr 0 _ hv0)
        · split at hv
          · rename_i e; subst e; injection hv with hv; subst hv
            exact ⟨0, hT5, rfl, Int.le_refl _, by decide⟩
          · split at hv
            · rename_i e; subst e; injection hv with hv; subst hv
              exact ⟨B3, tot3, 0, rfl, j2, IR.lit 0⟩
            · split at hv
              · rename_i e; subst e; injection hv with hv; subst hv
                exact ⟨B, tot, 0, len', cap', rfl, g2, IR.lit 0, ⟨rfl, by show (0 : Int) ≤ (len' : Int); omega, by show (len' : Int) ≤ 1000000; omega⟩, g5, g6, g7, g8⟩
              · cases hv
    have hlp : LPOK p 0 := ⟨Int.le_refl _, by show (0 : Int) ≤ (len' : Int); omega, by show (len' : Int) ≤ 1000000; omega, by show (len' : Int) = ((ss.length : Nat) : Int); omega, e3, hu.1.1, hu.1.2⟩
    refine wp_mono (loopStep hlp hst) fun e a' w' ⟨he, k, hk⟩ => ?_
    subst he
    refine ⟨ρ, Ren.le.refl _, ⟨hs.rel.pure hk.rel, fun u v hv => ?_, ?_, hk.nt⟩, rfl⟩
    · simp only [tmAfter, Tr.get_set] at hv
      have hkt := hk.tr
      have gk : ∀ t v, (stK p k).tmps.get t = some v → VR ρc v (a'.tmps.getD t undef) := hkt
      split at hv
      · rename_i e; subst e; injection hv with hv; subst hv
        exact under_mono (n := 0) (fun id x _ hlt => by omega) _ _ hu.1.2 (gk 2 v2 (by simp [stK, tmK, Tr.get_set, p]))
      · split at hv
        · rename_i e; subst e; injection hv with hv; subst hv
          exact under_mono (n := 0) (fun id x _ hlt => by omega) _ _ hu.1.1 (gk 0 v0 (by simp [stK, tmK, Tr.get_set, p]))
        · split at hv
          · rename_i e; subst e; injection hv with hv; subst hv
            obtain ⟨D, u', n', z1, z2, z3⟩ := gk 3 (.ptr 1 (I.lit 0)) (by simp [stK, tmK, Tr.get_set])
            have z1 : some (B3, tot3) = some (D, u') := z1
            obtain ⟨rfl, rfl⟩ := Prod.mk.inj (Option.some.inj z1)
            have : n' = 0 := by have := z3.1; simp [I.lit] at this; omega
            subst this
            exact ⟨B3, tot3, 0, q1, z2, j3⟩
          · split at hv
            · rename_i e; subst e; injection hv with hv; subst hv
              obtain ⟨D, u', n', l2, cap2, z1, z2, z3, z4, z5, z6, z7, z8⟩ := gk 1 _ (show (stK p k).tmps.get 1 = some (.slice 0 1 (I.lit 0) ⟨p.m, 0, big⟩ p.clo p.chi) by simp [stK, tmK, Tr.get_set])
              have z1 : some (B, tot) = some (D, u') := z1
              obtain ⟨rfl, rfl⟩ := Prod.mk.inj (Option.some.inj z1)
              have e1' : n' = 0 := by have := z3.1; simp [I.lit] at this; omega
              have e2' : l2 = len' := by have : (l2 : Int) = (len' : Int) := z4.1; omega
              subst e1'; subst e2'
              exact ⟨B, tot, 0, l2, cap2, k1, z2, g3, g4, z5, z6, z7, z8⟩
            · cases hv
    · exact hk.dr
  · cases h
end Go.Proofs.Ytoeipbkoeclbeaa
