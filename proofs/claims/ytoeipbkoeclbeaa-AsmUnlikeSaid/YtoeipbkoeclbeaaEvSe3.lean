/- Own text: a function whose results are known as a table, without places. -/
import Derived.Test.YtoeipbkoeclbeaaEvSe2
namespace Go.Ev
def startHp (G L : Nat) : Hp := ⟨.lf, G, L⟩
def noRO : RO := fun _ => none
section
variable {P : Program} {E : Env} {G : Nat} {ρ : Ren} {w0 : Base} {w : World} {F : Nat → Prop} {ro : RO} {hp : Hp}
/-- A run that knows of no memory. -/
theorem Rel.start (hg : GR ρ G) (L : Nat) : Rel ⟨w, fun id => if id < G then ρ id else none, G⟩ (fun _ => False) G noRO (fun id => if id < G then ρ id else none) (startHp G L) w := by
  refine ⟨fun id b h => (by cases h), fun i j b c B t t' h _ _ _ => (by cases h), fun id b h => (by cases h), fun id h1 h2 => ?_, fun _ _ _ => rfl, Nat.le_refl _, rfl, rfl, rfl, fun g hlt => ?_, fun id x h => .inl h, Nat.le_refl _⟩
  · have h1 : G ≤ id := h1
    rw [if_neg (by omega)]
  · obtain ⟨t, ht⟩ := hg g hlt
    exact ⟨t, by rw [if_pos hlt]; exact ht⟩
/-- After such a run what was known is known. -/
theorem Rel.pure (hr : Rel w0 F G ro ρ hp w) {ρ1 ρ' : Ren} {hp' : Hp} {w' : World} {n G' : Nat} {ro' : RO} (h' : Rel ⟨w, ρ1, n⟩ (fun _ => False) G' ro' ρ' hp' w') : Rel w0 F G ro ρ hp w' := by
  refine ⟨fun id b h => ?_, hr.inj, hr.sep, hr.fresh, fun B hB hF => ?_, Nat.le_trans hr.size h'.size, h'.tape.trans hr.tape, h'.os.trans hr.os, h'.output.trans hr.output, hr.glob, hr.ren, hr.le0⟩
  · obtain ⟨B, t, o, h1, h2, h3, h4⟩ := hr.blk id b h
    have := h'.frame B (lt_of_heap h2) (fun h => h)
    exact ⟨B, t, o, h1, by rw [this]; exact h2, h3, h4⟩
  · rw [h'.frame B (Nat.lt_of_lt_of_le hB hr.size) (fun h => h)]
    exact hr.frame B hB hF
theorem pureCall {call : CallF} (hc : CallOK P G call) {f L : Nat} {args : List V} {v : V} {hp' : Hp} (h : (call noRO f args (startHp G L)).run = some (.ret v, hp')) (hu : V.under 0 v = true) (ha : unders 0 args = true)
    {l : List Value} (hr : Rel w0 F G ro ρ hp w) (hl : VRs ρ args l) : (∀ w, (callFunc f ⟨l⟩).run P w = .ok (.enter f ⟨l⟩) w) ∧ Calls P f ⟨l⟩ w (EndR w0 F G ro ρ (.ret v, hp)) := by
  obtain ⟨g1, g2⟩ := hc _ _ _ _ _ h _ _ _ w l (Rel.start hr.glob L) (unders_mono (n := 0) (fun id x _ h => by omega) args l ha hl)
  refine ⟨g1, g2.mono fun e w' ⟨ρ', k1, k2, x, k3, k4⟩ => ⟨ρ, Ren.le.refl _, hr.pure k2, x, k3, under_mono (n := 0) (fun id x _ h => by omega) v x hu k4⟩⟩
/-- The table as a summary. -/
def tabSum (tbl : List V → Option V) : Summ := fun _ hp args => match tbl args with
  | some v => .ret (.ret v, hp)
  | none => .fail
/-- What the table says is so. -/
def TabOK (call : CallF) (G L f : Nat) (tbl : List V → Option V) : Prop := ∀ args v, tbl args = some v → ∃ args', (∀ (ρ : Ren) l, VRs ρ args l → VRs ρ args' l) ∧ unders 0 args' = true ∧ V.under 0 v = true ∧ ∃ hp', (call noRO f args' (startHp G L)).run = some (.ret v, hp')
theorem tabSum_sound {call : CallF} (hc : CallOK P G call) {f L : Nat} {tbl : List V → Option V} (ht : TabOK call G L f tbl) {args : List V} {r : AEnd × Hp} (h : (tabSum tbl ro hp args).run = some r)
    {l : List Value} (hr : Rel w0 F G ro ρ hp w) (hl : VRs ρ args l) : (∀ w, (callFunc f ⟨l⟩).run P w = .ok (.enter f ⟨l⟩) w) ∧ Calls P f ⟨l⟩ w (EndR w0 F G ro ρ r) := by
  unfold tabSum at h
  split at h <;> try (cases h; done)
  rename_i v hv
  injection h with h; subst h
  obtain ⟨args', h1, h2, h3, hp', h4⟩ := ht args v hv
  exact pureCall hc h4 h3 h2 hr (h1 ρ l hl)
end
/-! ### is it this value -/
def iEq (a b : I) : Bool := ieq a.n b.n && ieq a.lo b.lo && ieq a.hi b.hi
theorem iEq_sound {a b : I} (h : iEq a b = true) : a = b := by
  simp only [iEq, Bool.and_eq_true, ieq_iff] at h
  cases a; cases b; simp_all
def isEq : List I → List I → Bool
  | [], [] => true
  | a :: as, b :: bs => iEq a b && isEq as bs
  | _, _ => false
theorem isEq_sound : ∀ {a b : List I}, isEq a b = true → a = b
  | [], [], _ => rfl
  | [], _ :: _, h => by cases h
  | _ :: _, [], h => by cases h
  | a :: as, b :: bs, h => by
    simp only [isEq, Bool.and_eq_true] at h
    rw [iEq_sound h.1, isEq_sound h.2]
mutual
def vEq : V → V → Bool
  | .bool a, .bool b => a == b
  | .int k a, .int l b => decide (k = l) && iEq a b
  | .str a, .str b => isEq a b
  | .agg a, .agg b => vsEq a b
  | .tup a, .tup b => vsEq a b
  | _, _ => false
def vsEq : List V → List V → Bool
  | [], [] => true
  | a :: as, b :: bs => vEq a b && vsEq as bs
  | _, _ => false
end
mutual
theorem vEq_sound : ∀ (a b : V), vEq a b = true → a = b
  | .bool a, b, h => by cases b <;> simp [vEq] at h; rw [h]
  | .int k a, b, h => by
    cases b <;> simp only [vEq, Bool.and_eq_true, decide_eq_true_eq, Bool.false_eq_true] at h
    rw [h.1, iEq_sound h.2]
  | .str a, b, h => by
    cases b <;> simp only [vEq, Bool.false_eq_true] at h
    rw [isEq_sound h]
  | .agg a, b, h => by
    cases b <;> simp only [vEq, Bool.false_eq_true] at h
    rw [vsEq_sound a _ h]
  | .tup a, b, h => by
    cases b <;> simp only [vEq, Bool.false_eq_true] at h
    rw [vsEq_sound a _ h]
  | .any, b, h => by cases b <;> simp [vEq] at h
  | .sbool _, b, h => by cases b <;> simp [vEq] at h
  | .ssym _, b, h => by cases b <;> simp [vEq] at h
  | .nilp, b, h => by cases b <;> simp [vEq] at h
  | .ptr _ _, b, h => by cases b <;> simp [vEq] at h
  | .nils, b, h => by cases b <;> simp [vEq] at h
  | .slice .., b, h => by cases b <;> simp [vEq] at h
  | .nilm, b, h => by cases b <;> simp [vEq] at h
  | .map _, b, h => by cases b <;> simp [vEq] at h
  | .func .., b, h => by cases b <;> simp [vEq] at h
  | .nilf, b, h => by cases b <;> simp [vEq] at h
  | .iface .., b, h => by cases b <;> simp [vEq] at h
  | .nili, b, h => by cases b <;> simp [vEq] at h
theorem vsEq_sound : ∀ (a b : List V), vsEq a b = true → a = b
  | [], [], _ => rfl
  | [], _ :: _, h => by simp [vsEq] at h
  | _ :: _, [], h => by simp [vsEq] at h
  | a :: as, b :: bs, h => by
    simp only [vsEq, Bool.and_eq_true] at h
    rw [vEq_sound a b h.1, vsEq_sound as bs h.2]
end
/-- A run that returns this value, without places. -/
def retIs (v : V) : Option (AEnd × Hp) → Bool
  | some r => match r.1 with
    | .ret u => vEq u v && V.under 0 u
    | .pan _ => false
  | none => false
theorem retIs_sound {v : V} {o : Option (AEnd × Hp)} (h : retIs v o = true) : V.under 0 v = true ∧ ∃ hp', o = some (.ret v, hp') := by
  unfold retIs at h
  split at h <;> try (cases h; done)
  rename_i r
  obtain ⟨e, hp'⟩ := r
  cases e <;> simp only [Bool.and_eq_true, Bool.false_eq_true] at h
  have := vEq_sound _ _ h.1
  subst this
  exact ⟨h.2, hp', rfl⟩
def allN (p : Nat → Bool) : Nat → Nat → Bool
  | 0, _ => true
  | n + 1, k => p k && allN p n (k + 1)
theorem allN_get {p : Nat → Bool} : ∀ {n k : Nat}, allN p n k = true → ∀ i, i < n → p (k + i) = true
  | 0, _, _, i, h => by omega
  | n + 1, k, h, 0, _ => by simp only [allN, Bool.and_eq_true] at h; exact h.1
  | n + 1, k, h, i + 1, hi => by
    simp only [allN, Bool.and_eq_true] at h
    have := allN_get h.2 i (by omega)
    rw [show k + (i + 1) = k + 1 + i by omega]; exact this
end Go.Ev
