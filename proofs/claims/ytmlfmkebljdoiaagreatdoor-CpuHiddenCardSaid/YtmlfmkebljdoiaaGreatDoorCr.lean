/- Own text: summaries of the functions of arcade/alu. -/
import Derived.Test.YtmlfmkebljdoiaaGreatDoorAlu
import Derived.Test.YtmlfmkebljdoiaaGreatDoorCm
namespace Go.Proofs.YtmlfmkebljdoiaaGreatDoor
open Go.Ev Go.Ev.Tr Go.Proofs
/-! ### what the package-level variables hold -/
def isB (o : Option Blk) (l : List V) : Bool := match o with
  | some (.cells cs) => vsEq cs l
  | _ => false
theorem isB_sound {o : Option Blk} {l : List V} (h : isB o l = true) : o = some (.cells l) := by
  unfold isB at h
  split at h <;> try (cases h; done)
  rw [vsEq_sound _ _ h]
def roIs (ro : RO) : Bool := isB (ro 0) idleC && isB (ro 1) maskC
theorem roIs_sound {ro : RO} (h : roIs ro = true) : ∀ id b, ro0 id = some b → ro id = some b := by
  simp only [roIs, Bool.and_eq_true] at h
  intro id b hb
  unfold ro0 at hb
  split at hb
  · rename_i e
    have e := Nat.eq_of_beq_eq_true e
    subst e
    rw [isB_sound h.1]; exact hb
  · split at hb
    · rename_i e
      have e := Nat.eq_of_beq_eq_true e
      subst e
      rw [isB_sound h.2]; exact hb
    · cases hb
theorem ro0OK : RoOK 2 ro0 := by
  intro id b hb
  unfold ro0 at hb
  split at hb
  · rename_i e
    have e := Nat.eq_of_beq_eq_true e
    subst e
    injection hb with hb; subst hb
    exact ⟨by decide, rfl⟩
  · split at hb
    · rename_i e
      have e := Nat.eq_of_beq_eq_true e
      subst e
      injection hb with hb; subst hb
      exact ⟨by decide, rfl⟩
    · cases hb
/-! ### functions of numbers alone -/
theorem areK_under : ∀ {ks : List IntKind} {vs : List V}, areK ks vs = true → unders 0 vs = true
  | [], [], _ => rfl
  | [], _ :: _, h => by cases h
  | _ :: _, [], h => by cases h
  | k :: ks, v :: vs, h => by
    simp only [areK, Bool.and_eq_true] at h
    simp only [unders, Bool.and_eq_true]
    refine ⟨?_, areK_under h.2⟩
    have := h.1
    unfold isK at this
    split at this <;> first | rfl | cases this
theorem retK_under {ks : List IntKind} {v : V} {hp : Hp} (h : retK ks (.ret v, hp) = true) : V.under 0 v = true := by
  unfold retK at h
  simp only at h
  split at h
  · unfold isK at h
    split at h <;> first | rfl | cases h
  · split at h <;> try (cases h; done)
    exact areK_under h
/-- The summary of a function of numbers, whose results are not looked at. -/
noncomputable def opqR (f : Nat) (spec : List ASpec) (ks : List IntKind) : Summ := fun ro hp args => match roIs ro with
  | true => match normA spec args with
    | some us => .ret (.ret (outK ks (call0 ro0 f us (startHp 2 1000000)).run), hp)
    | none => .fail
  | false => .fail
theorem opqR_sound {f : Nat} {spec : List ASpec} {ks : List IntKind} (H : ∀ us, Normal spec us → allK ks f us = true)
    {ro : RO} {hp : Hp} {args : List V} {r : AEnd × Hp} (h : (opqR f spec ks ro hp args).run = some r) {w0 : Base} {F : Nat → Prop} {ρ : Ren} {w : World} {l : List Value} (hr : Rel w0 F 2 ro ρ hp w) (hl : VRs ρ args l) :
    (∀ w, (callFunc f ⟨l⟩).run Tryz.prog w = .ok (.enter f ⟨l⟩) w) ∧ Calls Tryz.prog f ⟨l⟩ w (EndR w0 F 2 ro ρ r) := by
  unfold opqR at h
  split at h <;> try (cases h; done)
  rename_i hro
  split at h <;> try (cases h; done)
  rename_i us hus
  injection h with h; subst h
  have hn := normA_normal hus
  have hH := H us hn
  unfold allK at hH
  obtain ⟨⟨e, hp'⟩, h1, h2⟩ := T.all_run hH
  cases e with
  | pan v => cases h2
  | ret v =>
    obtain ⟨g1, g2⟩ := ownCall (bs := []) (bl := []) (bl' := []) call0OK h1 (roIs_sound hro) ro0OK (fun i b hb => by simp at hb) rfl rfl (by simp) (retK_under h2) (fun i b hb => by simp at hb) hr hl
      (fun hv => unders_mono (n := 0) (fun id x _ h => by omega) us l (normal_under hn) (normA_VR hus hv))
    refine ⟨g1, g2.mono fun en w' ⟨ρ', k1, k2, x, hx, hv⟩ => ⟨ρ', k1, k2, x, hx, ?_⟩⟩
    rw [h1]
    exact outK_sound h2 hv
noncomputable def alu2 (f : Nat) (args : List V) (i : Nat) : Int := nOf ((tupOf (retV (call0 ro0 f args (startHp 2 1000000)).run)).getD i .any)
noncomputable def alu1 (f : Nat) (args : List V) : Int := nOf (retV (call0 ro0 f args (startHp 2 1000000)).run)
noncomputable def aluSm (f : Nat) : Option Summ := match f with
  | 16 => some pickSum
  | 17 => some (opqR 17 [.lit .i64 7, .any .u8, .any .u8, .any .u8] [.u8, .u8])
  | 22 => some (opqR 22 [.lit .i64 1, .any .u8, .any .u8] [.u8, .u8])
  | 23 => some (opqR 23 [.lit .i64 7, .any .u8, .any .u8] [.u8, .u8])
  | 46 => some (opqR 46 [.lit .i64 7, .any .u8, .any .u8] [.u8, .u8])
  | 24 => some (opqR 24 [.any .u16, .any .u8] [.u16, .u8])
  | 146 => some (opqR 146 [.any .u16, .any .u16, .any .u8] [.u16, .u8])
  | 163 => some (opqR 163 [.lit .i64 7, .any .u8, .any .u8] [.u8])
  | 164 => some (opqR 164 [.lit .i64 7, .any .u8] [.u8])
  | 165 => some (opqR 165 [.lit .i64 7, .any .u8] [.u8])
  | _ => none
/-- What is asked of a summary. -/
def SumAt (f : Nat) (s : Summ) : Prop := ∀ ro hp args r, (s ro hp args).run = some r → ∀ (w0 : Base) (F : Nat → Prop) (ρ : Ren) (w : World) (l : List Value), Rel w0 F 2 ro ρ hp w → VRs ρ args l →
  (∀ w, (callFunc f ⟨l⟩).run Tryz.prog w = .ok (.enter f ⟨l⟩) w) ∧ Calls Tryz.prog f ⟨l⟩ w (EndR w0 F 2 ro ρ r)
theorem opqAt {f : Nat} {spec : List ASpec} {ks : List IntKind} (H : ∀ us, Normal spec us → allK ks f us = true) : SumAt f (opqR f spec ks) := fun _ _ _ _ h _ _ _ _ _ hr hl => opqR_sound H h hr hl
theorem aluSm_ok : ∀ f s, aluSm f = some s → SumAt f s := by
  intro f s h
  unfold aluSm at h
  split at h <;> first | (cases h; done) | (injection h with h; subst h)
  · exact fun _ _ _ _ h _ _ _ _ _ hr hl => pickSum_sound h hr hl
  · exact opqAt arith_total
  · exact opqAt step_total
  · exact opqAt turn_total
  · exact opqAt shift_total
  · exact opqAt addOffset_total
  · exact opqAt addWord_total
  · exact opqAt bit_total
  · exact opqAt res_total
  · exact opqAt set_total
end Go.Proofs.YtmlfmkebljdoiaaGreatDoor
