/- Own text: that the abstract operations say what the model's do: operands, numbers, comparisons, places. -/
import Derived.Test.YtoeipbkoeclbeaaEvRun
import Derived.Laws.World
import Derived.Laws.Strings
namespace Go.Ev

structure TyOK (P : Program) (ti : Nat → Option TI) : Prop where
  und : ∀ t i, ti t = some i → P.underlying t = some i.und
  info : ∀ t i, ti t = some i → ∃ f, P.info? t = some f ∧ f.size = i.size ∧ f.bytes = i.bytes ∧ f.zero = i.zero
  egt : ∀ t i fs, ti t = some i → i.und = .struct fs → i.egt = false → P.eqGuardType P.depth t = false
  stood : ∀ t i fs, ti t = some i → i.und = .struct fs → i.stood = false → P.stoodInHeld t = false

section
variable {P : Program} {ti : Nat → Option TI} {ρ : Ren} {G : Nat}
theorem TyOK.run_und (h : TyOK P ti) {t : TypeId} {i : TI} (ht : ti t = some i) (w : World) : (underlying t).run P w = .ok i.und w := by
  simp [underlying, h.und _ _ ht]
theorem TyOK.run_info (h : TyOK P ti) {t : TypeId} {i : TI} (ht : ti t = some i) : ∃ f, f.size = i.size ∧ f.bytes = i.bytes ∧ f.zero = i.zero ∧ ∀ w, (typeInfo t).run P w = .ok f w := by
  obtain ⟨f, h1, h2, h3, h4⟩ := h.info _ _ ht
  exact ⟨f, h2, h3, h4, fun w => by simp [typeInfo, h1]⟩
theorem TyOK.run_size (h : TyOK P ti) {t : TypeId} {i : TI} (ht : ti t = some i) (w : World) : (sizeOf t).run P w = .ok i.size w := by
  obtain ⟨f, h1, _, _, h4⟩ := h.run_info ht
  simp [sizeOf, h4, h1]
theorem TyOK.run_agg (h : TyOK P ti) {t : TypeId} {i : TI} (ht : ti t = some i) (w : World) : (isAgg t).run P w = .ok (isAggD i.und) w := by
  simp only [isAgg, Sem.run_bind, h.run_und ht, Result.andThen_ok]
  cases i.und <;> rfl
theorem TyOK.run_zero (h : TyOK P ti) {t : TypeId} {i : TI} {z : Value} (ht : ti t = some i) (hz : i.zero = some z) (w : World) : (zeroValue t).run P w = .ok z w := by
  obtain ⟨f, _, _, h3, h4⟩ := h.run_info ht
  simp [zeroValue, h4, h3, hz]

/-! ### operands -/
theorem flatV_sound : ∀ {v : Value} {x : V}, flatV v = some x → VR ρ x v := by
  intro v x h
  unfold flatV at h
  split at h
  all_goals first | contradiction | (injection h with h; subst h)
  · rfl
  · exact ⟨_, rfl, IR.lit _⟩
  · rename_i s
    refine ⟨?_, fun i hi => ?_⟩
    · simp only [List.map_map]
      have : (byteOf ∘ fun b : UInt8 => I.lit ↑b.toNat) = id := by
        funext b; simp [byteOf, I.lit]
      rw [this, List.map_id]
    · obtain ⟨b, _, rfl⟩ := List.mem_map.1 hi
      have := b.toNat_lt
      simp [I.lit]; omega
  · rfl
  · rfl
  · rfl
  · rfl
  · rfl
  · exact ⟨[], [], rfl, rfl, rfl⟩
theorem flatVs_sound : ∀ {l : List Value} {xs : List V}, flatVs l = some xs → VRs ρ xs l
  | [], _, h => by cases h; rfl
  | v :: vs, _, h => by
    unfold flatVs at h
    split at h <;> try contradiction
    rename_i h1 h2
    injection h with h; subst h
    exact ⟨v, vs, rfl, flatV_sound h1, flatVs_sound h2⟩
theorem constV_sound {v : Value} {x : V} (h : constV v = some x) : VR ρ x v := by
  unfold constV at h
  split at h
  · rename_i cs
    cases h1 : flatVs cs with
    | none => rw [h1] at h; cases h
    | some l => rw [h1] at h; cases h; exact ⟨cs, rfl, flatVs_sound h1⟩
  · rename_i t cs
    cases h1 : flatVs cs with
    | none => rw [h1] at h; cases h
    | some l => rw [h1] at h; cases h; exact ⟨_, rfl, cs, rfl, flatVs_sound h1⟩
  · rename_i t u _
    cases h1 : flatV u with
    | none => rw [h1] at h; cases h
    | some l => rw [h1] at h; cases h; exact ⟨_, rfl, flatV_sound h1⟩
  · exact flatV_sound h
/-- The temporaries are as told. -/
def TR (ρ : Ren) (tmps : Tr V) (a : Array Value) : Prop := ∀ t v, tmps.get t = some v → VR ρ v (a.getD t undef)
theorem TR.mono {ρ ρ' : Ren} (h : ρ.le ρ') {tmps : Tr V} {a : Array Value} (ht : TR ρ tmps a) : TR ρ' tmps a := fun t v hv => VR.mono h _ _ (ht t v hv)
theorem tmpV_sound {tmps : Tr V} {a : Array Value} (ht : TR ρ tmps a) (t : Tmp) : VR ρ (tmpV tmps t) (a.getD t undef) := by
  unfold tmpV; split
  · rename_i v hv; exact ht _ _ hv
  · trivial
theorem TR.put {tmps : Tr V} {a : Act} (ht : TR ρ tmps a.tmps) (dst : Option Tmp) {v : V} {x : Value} (hv : VR ρ v x) {nt : Nat} (hd : dstOk nt dst = true) (hn : nt = a.tmps.size) :
    TR ρ (setT tmps dst v) (a.put dst x).tmps := by
  cases dst with
  | none => exact ht
  | some d =>
    intro t u hu
    simp only [setT, Tr.get_set] at hu
    have hlt : d < a.tmps.size := by
      have hd' : d + 1 ≤ nt := Nat.le_of_ble_eq_true hd
      have hd2 : d < a.tmps.size := by rw [← hn]; exact hd'
      exact hd2
    simp only [Act.put]
    by_cases e : t = d
    · rw [if_pos e] at hu; cases hu
      subst e
      simpa [Array.getD, hlt] using hv
    · rw [if_neg e] at hu
      have h1 := ht t u hu
      have e2 : (a.tmps.setIfInBounds d x).getD t undef = a.tmps.getD t undef := by
        simp only [Array.getD_eq_getD_getElem?, Array.getElem?_setIfInBounds]
        rw [if_neg (fun h => e h.symm)]
      rw [e2]; exact h1
theorem size_put (a : Act) (dst : Option Tmp) (x : Value) : (a.put dst x).tmps.size = a.tmps.size := by cases dst <;> simp [Act.put]
/-- What the program's variables are in the map. -/
def GR (ρ : Ren) (G : Nat) : Prop := ∀ g, g < G → ∃ tot, ρ g = some (g, tot)
theorem GR.mono {ρ ρ' : Ren} (h : ρ.le ρ') (hg : GR ρ G) : GR ρ' G := fun g hlt => let ⟨t, ht⟩ := hg g hlt; ⟨t, h _ _ ht⟩
theorem opV_sound {tmps : Tr V} {a : Act} (ht : TR ρ tmps a.tmps) (hg : GR ρ G) {x : Operand} {v : V} (h : opV G tmps x = some v) : VR ρ v (a.eval x) := by
  cases x with
  | tmp t => simp only [opV, Option.some.injEq] at h; subst h; exact tmpV_sound ht t
  | const c => exact constV_sound h
  | global g =>
    simp only [opV, gloV] at h
    split at h <;> try contradiction
    rename_i hb; rw [Nat.ble_eq] at hb
    injection h with h; subst h
    obtain ⟨tot, ht⟩ := hg g (by omega)
    exact ⟨g, tot, 0, ht, rfl, IR.lit 0⟩
  | func f => simp only [opV, Option.some.injEq] at h; subst h; exact ⟨[], [], rfl, rfl, rfl⟩
theorem opVs_sound {tmps : Tr V} {a : Act} (ht : TR ρ tmps a.tmps) (hg : GR ρ G) : ∀ {l : List Operand} {vs : List V}, opVs G tmps l = some vs → VRs ρ vs (l.map a.eval)
  | [], _, h => by cases h; rfl
  | o :: os, _, h => by
    unfold opVs at h
    split at h <;> try contradiction
    rename_i x hx
    split at h <;> try contradiction
    rename_i xs hxs
    simp only [Option.some.injEq] at h; subst h
    exact ⟨_, _, rfl, opV_sound ht hg hx, opVs_sound ht hg hxs⟩

/-! ### comparisons -/
theorem ba_beq (x y : List UInt8) : ((⟨⟨x⟩⟩ : ByteArray) == ⟨⟨y⟩⟩) = (x == y) := by
  show ByteArray.beq ⟨⟨x⟩⟩ ⟨⟨y⟩⟩ = _
  simp [ByteArray.beq]
theorem eqI_sound {a b : I} {x y : Int} (ha : IR a x) (hb : IR b y) : VR ρ (eqI a b) (.bool (x == y)) := by
  obtain ⟨rfl, a1, a2⟩ := ha
  obtain ⟨rfl, b1, b2⟩ := hb
  unfold eqI
  split
  · rename_i h; simp only [Bool.and_eq_true, ieq_iff] at h
    have e1 : a.n = a.lo := by omega
    have e2 : b.n = b.lo := by omega
    simp only [VR, Value.bool.injEq]
    rw [e1, e2, Bool.eq_iff_iff, beq_iff_eq, ieq_iff]
  · split
    · rename_i h; simp only [Bool.or_eq_true, ile_iff] at h
      simp only [VR, Value.bool.injEq, beq_eq_false_iff_ne]; omega
    · rfl
theorem ltI_sound {a b : I} {x y : Int} (ha : IR a x) (hb : IR b y) : VR ρ (ltI a b) (.bool (decide (x < y))) := by
  obtain ⟨rfl, a1, a2⟩ := ha
  obtain ⟨rfl, b1, b2⟩ := hb
  unfold ltI
  split
  · rename_i h; rw [ile_iff] at h; simp only [VR, Value.bool.injEq, decide_eq_true_eq]; omega
  · split
    · rename_i h; rw [ile_iff] at h; simp only [VR, Value.bool.injEq, decide_eq_false_iff_not]; omega
    · rfl
theorem leI_sound {a b : I} {x y : Int} (ha : IR a x) (hb : IR b y) : VR ρ (leI a b) (.bool (decide (x ≤ y))) := by
  obtain ⟨rfl, a1, a2⟩ := ha
  obtain ⟨rfl, b1, b2⟩ := hb
  unfold leI
  split
  · rename_i h; rw [ile_iff] at h; simp only [VR, Value.bool.injEq, decide_eq_true_eq]; omega
  · split
    · rename_i h; rw [ile_iff] at h; simp only [VR, Value.bool.injEq, decide_eq_false_iff_not]; omega
    · rfl
theorem notV_sound {v r : V} {b : Bool} (hv : VR ρ v (.bool b)) (h : notV v = some r) : VR ρ r (.bool !b) := by
  cases v <;> simp only [notV, Option.some.injEq, reduceCtorEq] at h
  all_goals (subst h; simp only [VR, Value.bool.injEq] at hv ⊢; rw [hv])
theorem andV_sound {u v r : V} {a b : Bool} (hu : VR ρ u (.bool a)) (hv : VR ρ v (.bool b)) (h : andV u v = some r) : VR ρ r (.bool (a && b)) := by
  unfold andV at h
  split at h
  all_goals first | contradiction | (injection h with h; subst h; simp only [VR, Value.bool.injEq] at hu hv ⊢; subst hu; subst hv; simp)
theorem byte_eq {a b : I} (ha : 0 ≤ a.lo ∧ a.lo ≤ a.n ∧ a.n ≤ a.hi ∧ a.hi ≤ 255) (hb : 0 ≤ b.lo ∧ b.lo ≤ b.n ∧ b.n ≤ b.hi ∧ b.hi ≤ 255) : (byteOf a == byteOf b) = (a.n == b.n) := by
  have h1 := byteOf_toNat ha
  have h2 := byteOf_toNat hb
  rw [Bool.eq_iff_iff, beq_iff_eq, beq_iff_eq, ← UInt8.toNat_inj]
  omega
theorem eqStr_sound : ∀ {a b : List I} {r : V}, BOk a → BOk b → eqStr a b = some r → VR ρ r (.bool (a.map byteOf == b.map byteOf))
  | [], [], _, _, _, h => by cases h; rfl
  | a :: as, b :: bs, r, ha, hb, h => by
    have ha0 := ha a (by simp)
    have hb0 := hb b (by simp)
    have e := eqI_sound (ρ := ρ) (a := a) (b := b) ⟨rfl, ha0.2.1, ha0.2.2.1⟩ ⟨rfl, hb0.2.1, hb0.2.2.1⟩
    have hc : ((a :: as).map byteOf == (b :: bs).map byteOf) = ((a.n == b.n) && (as.map byteOf == bs.map byteOf)) := by
      rw [← byte_eq ha0 hb0]; simp
    rw [hc]
    unfold eqStr at h
    split at h
    · rename_i he; rw [he] at e
      cases h
      simp only [VR, Value.bool.injEq] at e ⊢
      rw [e]; simp
    · split at h
      · rename_i r' hr
        exact andV_sound e (eqStr_sound (fun i hi => ha i (by simp [hi])) (fun i hi => hb i (by simp [hi])) hr) h
      · cases h
  | [], b :: bs, _, _, _, h => by cases h; rfl
  | a :: as, [], _, _, _, h => by cases h; rfl
theorem eqB_sound {x y r : V} {a b : Value} (hx : VR ρ x a) (hy : VR ρ y b) (h : eqB x y = some r) : ∃ p q, a = .bool p ∧ b = .bool q ∧ VR ρ r (.bool (p == q)) := by
  unfold eqB at h
  split at h
  all_goals first | contradiction | (injection h with h; subst h; simp only [VR] at hx hy; exact ⟨_, _, hx, hy, rfl⟩)
theorem onlyIf_some {c : Bool} {v r : V} (h : onlyIf c v = some r) : c = true ∧ r = v := by
  cases c with
  | true => exact ⟨rfl, (Option.some.inj h).symm⟩
  | false => cases h
/-- What '==' asks of the two values, the type's kind d. -/
theorem eq1_sound {d : TypeDesc} {x y r : V} {a b : Value} {w : World} {n : Nat} {t : TypeId} (hd : P.underlying t = some d) (hx : VR ρ x a) (hy : VR ρ y b) (h : eq1 d x y = some r) :
    ∃ q, (Op.equalIn (n + 1) t a b).run P w = .ok q w ∧ VR ρ r (.bool q) := by
  have hu : ∀ w, (underlying t).run P w = .ok d w := fun w => by simp [underlying, hd]
  unfold eq1 at h
  split at h
  · split at h
    · obtain ⟨hc, rfl⟩ := onlyIf_some h
      simp only [Bool.and_eq_true, decide_eq_true_eq] at hc
      obtain ⟨hc, rfl⟩ := hc
      obtain ⟨m, rfl, hm⟩ := hx
      obtain ⟨m', rfl, hm'⟩ := hy
      cases d <;> simp only [isIntD, Bool.false_eq_true] at hc
      exact ⟨m == m', by simp [Op.equalIn, hu], eqI_sound hm hm'⟩
    · cases h
  · split at h
    · rename_i hc
      cases d <;> simp only [isBoolD, Bool.false_eq_true] at hc
      obtain ⟨p, q, rfl, rfl, hr⟩ := eqB_sound hx hy h
      exact ⟨p == q, by simp [Op.equalIn, hu], hr⟩
    · cases h
  · split at h
    · rename_i hc
      cases d <;> simp only [isBoolD, Bool.false_eq_true] at hc
      obtain ⟨p, q, rfl, rfl, hr⟩ := eqB_sound hx hy h
      exact ⟨p == q, by simp [Op.equalIn, hu], hr⟩
    · cases h
  · split at h
    · split at h
      · rename_i hc
        cases d <;> simp only [isStrD, Bool.false_eq_true] at hc
        obtain ⟨rfl, ha⟩ := hx
        obtain ⟨rfl, hb⟩ := hy
        refine ⟨_, by simp only [Op.equalIn, Sem.run_bind, hu, Result.andThen_ok]; rfl, ?_⟩
        have := eqStr_sound (ρ := ρ) ha hb h
        rw [ba_beq]; exact this
      · cases h
    · cases h
  -- nilp
  · split at h
    · obtain ⟨hc, rfl⟩ := onlyIf_some h
      cases d <;> simp only [isPtrD, Bool.false_eq_true] at hc
      simp only [VR] at hx hy; subst hx; subst hy
      exact ⟨true, by simp [Op.equalIn, hu], rfl⟩
    · obtain ⟨hc, rfl⟩ := onlyIf_some h
      cases d <;> simp only [isPtrD, Bool.false_eq_true] at hc
      simp only [VR] at hx hy; subst hx; obtain ⟨_, _, _, _, rfl, _⟩ := hy
      exact ⟨false, by simp [Op.equalIn, hu], rfl⟩
    · cases h
  · split at h
    · obtain ⟨hc, rfl⟩ := onlyIf_some h
      cases d <;> simp only [isPtrD, Bool.false_eq_true] at hc
      simp only [VR] at hx hy; subst hy; obtain ⟨_, _, _, _, rfl, _⟩ := hx
      exact ⟨false, by simp [Op.equalIn, hu], rfl⟩
    · cases h
  · split at h
    · obtain ⟨hc, rfl⟩ := onlyIf_some h
      cases d <;> simp only [isIfaceD, Bool.false_eq_true] at hc
      simp only [VR] at hx hy; subst hx; obtain ⟨_, rfl, _⟩ := hy
      exact ⟨false, by simp [Op.equalIn, hu], rfl⟩
    · cases h
  · split at h
    · obtain ⟨hc, rfl⟩ := onlyIf_some h
      cases d <;> simp only [isIfaceD, Bool.false_eq_true] at hc
      simp only [VR] at hx hy; subst hy; obtain ⟨_, rfl, _⟩ := hx
      exact ⟨false, by simp [Op.equalIn, hu], rfl⟩
    · obtain ⟨hc, rfl⟩ := onlyIf_some h
      simp only [Bool.and_eq_true, Bool.not_eq_true'] at hc
      obtain ⟨hc, hne⟩ := hc
      cases d <;> simp only [isIfaceD, Bool.false_eq_true] at hc
      simp only [VR] at hx hy; obtain ⟨_, rfl, _⟩ := hx; obtain ⟨_, rfl, _⟩ := hy
      have hne' := Nat.ne_of_beq_eq_false hne
      exact ⟨false, by simp [Op.equalIn, hu, hne'], rfl⟩
    · cases h
  · split at h
    · obtain ⟨hc, rfl⟩ := onlyIf_some h
      cases d <;> simp only [isSliceD, Bool.false_eq_true] at hc
      simp only [VR] at hx hy; subst hx; subst hy
      exact ⟨true, by simp [Op.equalIn, hu], rfl⟩
    · obtain ⟨hc, rfl⟩ := onlyIf_some h
      cases d <;> simp only [isSliceD, Bool.false_eq_true] at hc
      simp only [VR] at hx hy; subst hx; obtain ⟨_, _, _, _, _, _, rfl, _⟩ := hy
      exact ⟨false, by simp [Op.equalIn, hu], rfl⟩
    · cases h
  · split at h
    · obtain ⟨hc, rfl⟩ := onlyIf_some h
      cases d <;> simp only [isSliceD, Bool.false_eq_true] at hc
      simp only [VR] at hx hy; subst hy; obtain ⟨_, _, _, _, _, _, rfl, _⟩ := hx
      exact ⟨false, by simp [Op.equalIn, hu], rfl⟩
    · cases h
  · split at h
    · obtain ⟨hc, rfl⟩ := onlyIf_some h
      cases d <;> simp only [isFuncD, Bool.false_eq_true] at hc
      simp only [VR] at hx hy; subst hx; subst hy
      exact ⟨true, by simp [Op.equalIn, hu], rfl⟩
    · obtain ⟨hc, rfl⟩ := onlyIf_some h
      cases d <;> simp only [isFuncD, Bool.false_eq_true] at hc
      simp only [VR] at hx hy; subst hx; obtain ⟨_, _, rfl, _⟩ := hy
      exact ⟨false, by simp [Op.equalIn, hu], rfl⟩
    · cases h
  · split at h
    · obtain ⟨hc, rfl⟩ := onlyIf_some h
      cases d <;> simp only [isFuncD, Bool.false_eq_true] at hc
      simp only [VR] at hx hy; subst hy; obtain ⟨_, _, rfl, _⟩ := hx
      exact ⟨false, by simp [Op.equalIn, hu], rfl⟩
    · cases h
  · cases h
end
end Go.Ev
