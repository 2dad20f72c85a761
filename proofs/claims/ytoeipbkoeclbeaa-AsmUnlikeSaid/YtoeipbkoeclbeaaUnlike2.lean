/- Own text: AsmUnlike: its loop and the function. -/
import Derived.Test.YtoeipbkoeclbeaaSteps
import GoSem.ClaimChange
namespace Go.Proofs.Ytoeipbkoeclbeaa
open Go.Ev Go.Ev.Tr Go.Proofs
set_option maxRecDepth 1000000
section
variable {w0 : Base} {F : Nat → Prop} {ρe ρ' : Ren} {st' : St} {a : Act} {w : World}
/-- What is known where the loop begins. -/
structure Entry (w0 : Base) (ρe : Ren) : Prop where
  n0 : w0.nxt = 0
  free : ∀ id, id < 1000000000 → ρe id = none
  ren : ∀ id x, ρe id = some x → w0.ren id = some x
theorem isFalse_sound {v : Option V} (h : isFalse v = true) : v = some (.bool false) := by
  unfold isFalse at h
  split at h <;> try (cases h; done)
  rename_i b
  cases b
  · rfl
  · cases h
theorem isNum_sound {v : Option V} {n : Nat} (h : isNum n v = true) {x : Value} {ρ : Ren} (hx : ∀ u, v = some u → VR ρ u x) : x = .int .i64 n := by
  unfold isNum at h
  split at h <;> try (cases h; done)
  rename_i k i
  simp only [Bool.and_eq_true, ieq_iff, decide_eq_true_eq] at h
  obtain ⟨m, rfl, hm⟩ := hx _ rfl
  have := hm.2
  rw [h.1.1]
  congr 1
  omega
theorem canon_sound (he : Entry w0 ρe) (hle : ρe.le ρ') (hs : SR w0 F 0 noRO 47 ρ' st' a w) {j : Nat} (h : matches_ st' j = true) : ∃ ρ'', ρe.le ρ'' ∧ SR w0 F 0 noRO 47 ρ'' (canon j) a w := by
  unfold matches_ at h
  split at h <;> try (cases h; done)
  rename_i hdfr
  simp only [Bool.and_eq_true] at h
  obtain ⟨⟨h0, h2⟩, h1⟩ := h
  have g0 : a.tmps.getD 0 undef = .bool false := hs.tr 0 _ (isFalse_sound h0)
  have g2 : a.tmps.getD 2 undef = .int .i64 j := isNum_sound h2 fun u hu => hs.tr 2 u hu
  have hdr : a.defers = [] := by have := hs.dr; rw [hdfr] at this; exact this
  have trC : ∀ {ρ : Ren} {t1 : V}, VR ρ t1 (a.tmps.getD 1 undef) → TR ρ (tmC j t1) a.tmps := fun {ρ t1} h1 u v hv => by
    simp only [tmC, Tr.get_set] at hv
    split at hv
    · rename_i e; subst e; injection hv with hv; subst hv
      exact ⟨j, g2, IR.lit _⟩
    · split at hv
      · rename_i e; subst e; injection hv with hv; subst hv
        exact h1
      · split at hv
        · rename_i e; subst e; injection hv with hv; subst hv
          exact g0
        · cases hv
  unfold matchL at h1
  unfold canon canonOf
  cases hc : texts j with
  | nil =>
    rw [hc] at h1
    simp only at h1
    split at h1 <;> try (cases h1; done)
    rename_i hn
    have g1 := hs.tr 1 _ hn
    refine ⟨ρe, Ren.le.refl _, ⟨?_, trC g1, hdr, hs.nt⟩⟩
    exact ⟨fun id b hb => (by cases hb), fun i k b c B t t' hi _ _ _ => (by cases hi), fun id b hb => (by cases hb), fun id _ i2 => he.free id i2, hs.rel.frame, hs.rel.size, hs.rel.tape, hs.rel.os, hs.rel.output, fun g hg => absurd hg (Nat.not_lt_zero g), fun id x hx => .inl (he.ren id x hx), by rw [he.n0]; exact Nat.zero_le _⟩
  | cons c cs =>
    rw [hc] at h1
    simp only at h1
    split at h1 <;> try (cases h1; done)
    rename_i t1 ht1
    have g1 := hs.tr 1 _ ht1
    cases t1 <;> simp only [matchSl, Bool.false_eq_true] at h1
    rename_i b es o len clo chi
    split at h1 <;> try (cases h1; done)
    rename_i l hl
    split at h1 <;> try (cases h1; done)
    rename_i ho
    split at h1 <;> try (cases h1; done)
    rename_i m hm
    simp only [Bool.and_eq_true, ieq_iff] at h1
    obtain ⟨⟨⟨⟨⟨k1, k2⟩, k3⟩, k4⟩, k5⟩, k6⟩ := h1
    have k1 := Nat.eq_of_beq_eq_true k1
    have k2 := Nat.eq_of_beq_eq_true k2
    have k5 := vsEq_sound _ _ k5
    subst k1; subst k3; subst k4; subst k5; subst k2
    obtain ⟨B, tot, n, len', cap, r1, r2, r3, r4, r5, r6, r7, r8⟩ := g1
    have e1 := litI_sound ho r3
    have e2 := litI_sound hm r4
    subst e1; subst e2
    obtain ⟨B', tot', ob, q1, q2, q3, q4⟩ := hs.rel.blk b _ (at_get hl)
    rw [r1] at q1
    obtain ⟨rfl, rfl⟩ := Prod.mk.inj (Option.some.inj q1)
    have q4 := q4.resolve_left (by rw [hl]; simp)
    have hle2 : ρe.le (ρe.ext 0 (B, tot)) := Ren.le_ext (he.free 0 (by omega))
    refine ⟨ρe.ext 0 (B, tot), hle2, ⟨?_, trC ⟨B, tot, 0, _, cap, Ren.ext_same, r2, IR.lit 0, IR.lit _, r5, r6, r7, r8⟩, hdr, hs.nt⟩⟩
    have only : ∀ id bl, Hp.at noRO ⟨Tr.lf.set 0 (some (.vec (c :: cs))), 1, 1000000000⟩ id = some bl → id = 0 ∧ bl = .vec (c :: cs) := fun id bl hb => by
      simp only [Hp.at, Tr.get_set, Tr.get_lf, noRO] at hb
      by_cases e : id = 0
      · subst e; simp at hb; exact ⟨rfl, hb.symm⟩
      · simp [e] at hb
    refine ⟨fun id bl hb => ?_, fun i k bl cl D t t' hi hk _ _ => ?_, fun id bl hb => rfl, fun id i1 i2 => ?_, hs.rel.frame, hs.rel.size, hs.rel.tape, hs.rel.os, hs.rel.output, fun g hg => absurd hg (Nat.not_lt_zero g), fun id x hx => ?_, by rw [he.n0]; exact Nat.zero_le _⟩
    · obtain ⟨rfl, rfl⟩ := only id bl hb
      obtain ⟨row, row', t, fz, rfl, c1, c2, c3⟩ := q3
      exact ⟨B, tot, _, Ren.ext_same, q2, ⟨row, row', t, fz, rfl, unders_mono (n := 0) (fun id x _ hlt => by omega) _ _ k6 c1, c2, c3⟩, .inr q4⟩
    · rw [(only i bl hi).1, (only k cl hk).1]
    · have i1 : 1 ≤ id := i1
      simp only [Ren.ext, if_neg (show ¬ id = 0 by omega)]
      exact he.free id i2
    · unfold Ren.ext at hx
      split at hx
      · rename_i e; subst e
        exact .inr ⟨by rw [he.n0]; exact Nat.zero_le _, by show 0 < 1; omega⟩
      · exact .inl (he.ren id x hx)
theorem callOK1 : CallOK Try.prog env1.G (evF env1 1000 1000) := evF_ok envOK1 sumOK1 1000 1000
/-- The loop. -/
theorem rounds_ok (he : Entry w0 ρe) {Q : Exit → Act → World → Prop} (hQ : ∀ ρ'' a' w', ρe.le ρ'' → SR w0 F 0 noRO 47 ρ'' (canon 512) a' w' → Q .normal a' w') : ∀ (n i : Nat) (ρ : Ren) (a : Act) (w : World), i ≤ 512 → 512 - i < n → ρe.le ρ → SR w0 F 0 noRO 47 ρ (canon i) a w →
    Code.rounds Try.prog LB (Exit.inBlock 0 Q) n a w
  | 0, i, _, _, _, _, h, _, _ => by omega
  | n + 1, i, ρ, a, w, hi, hn, hle, hs => by
    show Code.wp Try.prog LB _ a w
    rcases Nat.lt_or_ge i 512 with hlt | hge
    · have h := stepAll hlt
      unfold stepOK at h
      generalize hr : (evC2 env1 noRO (evF env1 1000 1000) 47 1000 cLB (canon i)).run = r at h
      unfold stepIs at h
      split at h <;> try (cases h; done)
      rename_i r
      split at h <;> try (cases h; done)
      rename_i hx
      rw [← cLB_eq]
      refine evC2_sound envOK1 callOK1 1000 cLB ρ (canon i) a w r _ (cLB_ok w0 F) hs hr fun e a' w' ⟨ρ', k1, k2, k3⟩ => ?_
      rw [hx] at k3
      simp only [XR] at k3; subst k3
      obtain ⟨ρ'', m1, m2⟩ := canon_sound he (hle.trans k1) k2 h
      exact rounds_ok he hQ n (i + 1) ρ'' a' w' (by omega) (by omega) m1 m2
    · have e : i = 512 := by omega
      subst e
      have h := stepEnd
      unfold endOK at h
      generalize hr : (evC2 env1 noRO (evF env1 1000 1000) 47 1000 cLB (canon 512)).run = r at h
      unfold endIs at h
      split at h <;> try (cases h; done)
      rename_i r
      split at h <;> try (cases h; done)
      rename_i hx
      rw [← cLB_eq]
      refine evC2_sound envOK1 callOK1 1000 cLB ρ (canon 512) a w r _ (cLB_ok w0 F) hs hr fun e a' w' ⟨ρ', k1, k2, k3⟩ => ?_
      rw [hx] at k3
      simp only [XR] at k3; subst k3
      obtain ⟨ρ'', m1, m2⟩ := canon_sound he (hle.trans k1) k2 h
      exact hQ ρ'' a' w' m1 m2
end
noncomputable def B0 : Code := sR (sL (sR (sR c7)))
theorem B0_eq : B0 = .block 0 (.loop LB) := by kernel_rfl
def hookB0 (st : St) : T (X × St) := match matches_ st 0 && Nat.beq st.hp.nxt 0 && Nat.beq st.hp.lim 1000000000 with
  | true => .ret (.normal, canon 512)
  | false => .fail
theorem hookB0_ok {w0 : Base} {F : Nat → Prop} (h0 : w0.nxt = 0) : HookOK Try.prog env1 w0 F noRO 47 B0 hookB0 := by
  intro ρ st a w r hs h
  unfold hookB0 at h
  split at h <;> try (cases h; done)
  rename_i hc
  simp only [Bool.and_eq_true] at hc
  obtain ⟨⟨hm, hn⟩, hl⟩ := hc
  have hn := Nat.eq_of_beq_eq_true hn
  have hl := Nat.eq_of_beq_eq_true hl
  injection h with h; subst h
  have he : Entry w0 ρ := ⟨h0, fun id hid => hs.rel.fresh id (by omega) (by omega), fun id x hx => by
    rcases hs.rel.ren id x hx with k | k
    · exact k
    · omega⟩
  obtain ⟨ρ'', m1, m2⟩ := canon_sound he (Ren.le.refl _) hs hm
  rw [B0_eq]
  refine wp_block (wp_loop_rounds 513 ?_)
  exact rounds_ok (F := F) he (fun ρ2 a' w' g1 g2 => ⟨ρ2, g1, g2, rfl⟩) 513 0 ρ'' a w (by omega) (by omega) m1 m2
noncomputable def c2 : C2 := .seq (.code (sL c7)) (.seq (.code (sL (sR c7))) (.seq (.seq (.code (sL (sL (sR (sR c7))))) (.hook B0 hookB0)) (.code (sR (sR (sR c7))))))
theorem c2_eq : Try.f7.body = some c2.erase := by kernel_rfl
def isTrue : Option (AEnd × Hp) → Bool
  | some r => match r.1 with
    | .ret (.bool true) => true
    | _ => false
  | none => false
theorem isTrue_sound {o : Option (AEnd × Hp)} (h : isTrue o = true) : ∃ hp, o = some (.ret (.bool true), hp) := by
  unfold isTrue at h
  split at h <;> try (cases h; done)
  rename_i r
  obtain ⟨e, hp⟩ := r
  split at h <;> try (cases h; done)
  rename_i he
  simp only at he
  subst he
  exact ⟨hp, rfl⟩
noncomputable def run7 : Option (AEnd × Hp) := (bodyF2 env1 1000 (evF env1 1000 1000) noRO Try.f7 c2 [] (startHp 0 1000000000)).run
theorem run7_true : isTrue run7 = true := by kernel_rfl
theorem nt7 : Try.f7.ntmps = 47 := rfl
theorem called (w : World) : Calls Try.prog 7 #[] w fun e w' => e = .returned (.bool true) ∧ w.keptBut w' (fun _ => False) := by
  obtain ⟨hp', hrun⟩ := isTrue_sound run7_true
  have hr := Rel.start (ρ := fun _ => none) (G := 0) (w := w) (fun g hg => absurd hg (Nat.not_lt_zero g)) 1000000000
  have hc := bodyF2_sound (F := fun _ => False) envOK1 callOK1 Try.func7 c2_eq (by
    refine ⟨trivial, trivial, ⟨trivial, ?_⟩, trivial⟩
    exact hookB0_ok rfl) hrun hr (l := []) rfl
  refine hc.mono fun e w' ⟨ρ', _, hrel, x, hx, hv⟩ => ?_
  simp only [VR] at hv
  subst hv
  refine ⟨hx, hrel.os, hrel.output, fun i hi => ?_⟩
  have := hrel.frame i hi (fun h => h)
  rw [this]
  cases hw : w.heap[i]? with
  | none => rfl
  | some o => cases o <;> first | rfl | exact ⟨rfl, rfl, rfl, fun _ _ => rfl⟩ | exact .inr ⟨rfl, rfl⟩
end Go.Proofs.Ytoeipbkoeclbeaa
