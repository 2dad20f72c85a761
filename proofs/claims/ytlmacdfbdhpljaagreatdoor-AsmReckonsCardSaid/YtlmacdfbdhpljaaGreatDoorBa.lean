/- Own text: the environment; summaries of the library's functions without a body of their own. -/
import Derived.Test.YtlmacdfbdhpljaaGreatDoorEnvOK
import Derived.Test.YtlmacdfbdhpljaaGreatDoorEvF
import Derived.KernelRfl
import Derived.Lib.Strings
import Derived.Lib.Slices
import Derived.Lib.Walk
import Derived.Lib.Bytealg
namespace Go.Proofs.YtlmacdfbdhpljaaGreatDoor
open Go.Ev Go.Ev.Tr Go.Proofs
set_option maxRecDepth 1000000
theorem evG_ok {P : Program} {E : Env} (hE : EnvOK P E) (hS : SumOK P E) (N n : Nat) : CallOK P E.G (evG E N n) :=
  evG_sound hE hS (fun _ hc => evDraw_sound hE hc) N n
/-- What is asked of a summary. -/
def SumAt (f : Nat) (s : Summ) : Prop := ∀ ro hp args r, (s ro hp args).run = some r → ∀ (w0 : Base) (F : Nat → Prop) (ρ : Ren) (w : World) (l : List Value), Rel w0 F 6 ro ρ hp w → VRs ρ args l →
  (∀ w, (callFunc f ⟨l⟩).run Tryz.prog w = .ok (.enter f ⟨l⟩) w) ∧ Calls Tryz.prog f ⟨l⟩ w (EndR w0 F 6 ro ρ r)
def clss (f : Nat) : Cls := match f with
  | 38 | 74 | 116 | 117 | 211 | 214 | 174 | 170 | 173 | 93 | 92 => .eff
  | _ => .read
noncomputable def env0 : Env := { ti := fun t => tys.get t, G := 6, fn := fun f => fns.get f, sm := fun _ => none, cls := clss }
theorem env0OK : EnvOK Tryz.prog env0 := envOK_of tysOK fnsOK mixedOK
theorem callsAt (f : Nat) (fn : Func) (h : env0.fn f = some fn) (l : List Value) (w : World) : (callFunc f ⟨l⟩).run Tryz.prog w = .ok (.enter f ⟨l⟩) w := env0OK.call f fn h _ w
/-! ### where a byte stands, how often -/
def findT (c : I) : List I → Nat → T Int
  | [], _ => .ret (-1)
  | a :: r, k => match eqI a c with
    | .bool true => .ret (k : Nat)
    | .bool false => findT c r (k + 1)
    | .sbool b => .br b (.ret (k : Nat)) (findT c r (k + 1))
    | _ => .fail
def countT (c : I) : List I → Nat → T Int
  | [], k => .ret (k : Nat)
  | a :: r, k => match eqI a c with
    | .bool true => countT c r (k + 1)
    | .bool false => countT c r k
    | .sbool b => .br b (countT c r (k + 1)) (countT c r k)
    | _ => .fail
theorem byteOf_eq {a : I} {m : Int} (ha : 0 ≤ a.lo ∧ a.lo ≤ a.n ∧ a.n ≤ a.hi ∧ a.hi ≤ 255) (hm : 0 ≤ m ∧ m ≤ 255) : (Ev.byteOf a == m.toNat.toUInt8) = (a.n == m) := by
  have h1 := byteOf_toNat ha
  have h2 : (m.toNat.toUInt8).toNat = m.toNat := by
    show (UInt8.ofNat m.toNat).toNat = _
    rw [UInt8.toNat_ofNat']
    exact Nat.mod_eq_of_lt (by omega)
  by_cases e : a.n = m
  · have : Ev.byteOf a = m.toNat.toUInt8 := UInt8.toNat_inj.1 (by rw [h2]; omega)
    simp [this, e]
  · have : Ev.byteOf a ≠ m.toNat.toUInt8 := fun h => e (by
      have := congrArg UInt8.toNat h
      rw [h2] at this; omega)
    rw [beq_eq_false_iff_ne.2 this, beq_eq_false_iff_ne.2 e]
theorem eqI_cases {a c : I} {ρ : Ren} {m : Int} (hc : IR c m) (ha : IR a a.n) : (eqI a c = .bool true ∧ a.n = m) ∨ (eqI a c = .bool false ∧ a.n ≠ m) ∨ ∃ b, eqI a c = .sbool b ∧ b = (a.n == m) := by
  have h := eqI_sound (ρ := ρ) ha hc
  have key : (∃ b, eqI a c = .bool b) ∨ ∃ b, eqI a c = .sbool b := by
    unfold eqI
    split
    · exact .inl ⟨_, rfl⟩
    · split
      · exact .inl ⟨_, rfl⟩
      · exact .inr ⟨_, rfl⟩
  rcases key with ⟨b, he⟩ | ⟨b, he⟩
  · rw [he] at h
    have h : Value.bool (a.n == m) = .bool b := h
    injection h with h
    cases b with
    | true => exact .inl ⟨he, by simpa using h⟩
    | false => exact .inr (.inl ⟨he, by simpa using h⟩)
  · rw [he] at h
    have h : Value.bool (a.n == m) = .bool b := h
    injection h with h
    exact .inr (.inr ⟨b, he, h.symm⟩)
theorem findT_sound {c : I} {m : Int} (hc : IR c m) (hm : 0 ≤ m ∧ m ≤ 255) : ∀ {s : List I} {k : Nat} {r : Int}, BOk s → (findT c s k).run = some r → (Lib.indexByte (s.map Ev.byteOf) m.toNat.toUInt8 = -1 ∧ r = -1) ∨ (0 ≤ Lib.indexByte (s.map Ev.byteOf) m.toNat.toUInt8 ∧ r = k + Lib.indexByte (s.map Ev.byteOf) m.toNat.toUInt8)
  | [], k, r, _, h => by
    injection h with h; subst h; exact .inl ⟨rfl, rfl⟩
  | a :: s, k, r, hb, h => by
    have ha := hb a (by simp)
    have hs : BOk s := fun i hi => hb i (by simp [hi])
    have hbe := byteOf_eq ha hm
    have next : (findT c s (k + 1)).run = some r → a.n ≠ m → (Lib.indexByte ((a :: s).map Ev.byteOf) m.toNat.toUInt8 = -1 ∧ r = -1) ∨ (0 ≤ Lib.indexByte ((a :: s).map Ev.byteOf) m.toNat.toUInt8 ∧ r = k + Lib.indexByte ((a :: s).map Ev.byteOf) m.toNat.toUInt8) := fun h hne => by
      have hf : (Ev.byteOf a == m.toNat.toUInt8) = false := by rw [hbe]; simpa using hne
      simp only [List.map_cons, Lib.indexByte, hf]
      rcases findT_sound hc hm hs h with ⟨g1, g2⟩ | ⟨g1, g2⟩
      · left; simp [g1, g2]
      · right
        have : ((Lib.indexByte (s.map Ev.byteOf) m.toNat.toUInt8) == -1) = false := by simp only [beq_eq_false_iff_ne, ne_eq]; omega
        simp only [this, Bool.false_eq_true, if_false]
        omega
    have here : a.n = m → r = k → (Lib.indexByte ((a :: s).map Ev.byteOf) m.toNat.toUInt8 = -1 ∧ r = -1) ∨ (0 ≤ Lib.indexByte ((a :: s).map Ev.byteOf) m.toNat.toUInt8 ∧ r = k + Lib.indexByte ((a :: s).map Ev.byteOf) m.toNat.toUInt8) := fun e hr => by
      have ht : (Ev.byteOf a == m.toNat.toUInt8) = true := by rw [hbe]; simpa using e
      right
      simp only [List.map_cons, Lib.indexByte, ht, if_true]
      omega
    unfold findT at h
    rcases eqI_cases (ρ := Ren.nil) hc ⟨rfl, ha.2.1, ha.2.2.1⟩ with ⟨e, g⟩ | ⟨e, g⟩ | ⟨b, e, g⟩
    · rw [e] at h; injection h with h; exact here g h.symm
    · rw [e] at h; exact next h g
    · rw [e] at h
      simp only [T.run] at h
      cases b with
      | true => injection h with h; exact here (by simpa using g.symm) h.symm
      | false => exact next h (by simpa using g.symm)
theorem countT_sound {c : I} {m : Int} (hc : IR c m) (hm : 0 ≤ m ∧ m ≤ 255) : ∀ {s : List I} {k : Nat} {r : Int}, BOk s → (countT c s k).run = some r → r = ((k + Lib.countByte (s.map Ev.byteOf) m.toNat.toUInt8 : Nat) : Int)
  | [], k, r, _, h => by
    injection h with h; subst h; rfl
  | a :: s, k, r, hb, h => by
    have ha := hb a (by simp)
    have hs : BOk s := fun i hi => hb i (by simp [hi])
    have hbe := byteOf_eq ha hm
    have here : (countT c s (k + 1)).run = some r → a.n = m → r = ((k + Lib.countByte ((a :: s).map Ev.byteOf) m.toNat.toUInt8 : Nat) : Int) := fun h e => by
      have ht : (Ev.byteOf a == m.toNat.toUInt8) = true := by rw [hbe]; simpa using e
      rw [countT_sound hc hm hs h]
      simp only [List.map_cons, Lib.countByte, List.count_cons, ht, if_true]
      omega
    have next : (countT c s k).run = some r → a.n ≠ m → r = ((k + Lib.countByte ((a :: s).map Ev.byteOf) m.toNat.toUInt8 : Nat) : Int) := fun h e => by
      have hf : (Ev.byteOf a == m.toNat.toUInt8) = false := by rw [hbe]; simpa using e
      rw [countT_sound hc hm hs h]
      simp [Lib.countByte, List.count_cons, hf]
    unfold countT at h
    rcases eqI_cases (ρ := Ren.nil) hc ⟨rfl, ha.2.1, ha.2.2.1⟩ with ⟨e, g⟩ | ⟨e, g⟩ | ⟨b, e, g⟩
    · rw [e] at h; exact here h g
    · rw [e] at h; exact next h g
    · rw [e] at h
      simp only [T.run] at h
      cases b with
      | true => exact here h (by simpa using g.symm)
      | false => exact next h (by simpa using g.symm)
set_option maxHeartbeats 1000000 in
theorem calls223 (s : ByteArray) (c : Int) (w : World) :
    Calls Tryz.prog 223 #[.string s, .int .u8 c] w fun e w' => e = .returned (.int .i64 (Lib.indexByte s.data.toList c.toNat.toUInt8)) ∧ w' = w := by
  go_enter Tryz.func223, Tryz.ntmps223
  go_wp2
  rw [run_callFunc_extern Tryz.func245 (by kernel_rfl) (by kernel_rfl) (by kernel_rfl) (e := Extern.BytealgIndexByte.indexByte) (by kernel_rfl), Lib.run_indexByteString]
  simp only [Result.andThen]
  rw [Oper.upon_value]
  go_wp2
  go_ret
  exact ⟨rfl, rfl⟩
set_option maxHeartbeats 1000000 in
theorem calls202 (s : ByteArray) (c : UInt8) (w : World) :
    Calls Tryz.prog 202 #[.string s, .string ⟨#[c]⟩] w fun e w' => e = .returned (.int .i64 (Lib.countByte s.data.toList c)) ∧ w' = w := by
  go_enter Tryz.func202, Tryz.ntmps202
  go_wp2
  rw [run_callFunc_extern Tryz.func230 (by kernel_rfl) (by kernel_rfl) (by kernel_rfl) (e := Extern.BytealgCount.count) (by kernel_rfl), Lib.run_countString]
  simp only [Result.andThen]
  rw [Oper.upon_value]
  go_wp2
  go_ret
  exact ⟨rfl, rfl⟩
def idxSum : Summ := fun _ hp args => match args with
  | [.str s, .int k c] => match decide (k = .u8) && ile 0 c.lo && ile c.hi 255 with
    | true => (findT c s 0).bind fun n => .ret (.ret (.int .i64 (I.lit n)), hp)
    | false => .fail
  | [.ssym s, .int k c] => match decide (k = .u8) with
    | true => .ret (.ret (.int .i64 ⟨Lib.indexByte s c.n.toNat.toUInt8, -1, 281474976710656⟩), hp)
    | false => .fail
  | _ => .fail
theorem indexByte_lt (l : List UInt8) (c : UInt8) : Lib.indexByte l c < l.length ∨ Lib.indexByte l c = -1 := by
  induction l with
  | nil => exact .inr rfl
  | cons b l ih =>
    have h1 := Lib.indexByte_ge l c
    unfold Lib.indexByte
    split
    · exact .inl (by simp only [List.length_cons]; omega)
    · split
      · exact .inr rfl
      · rename_i h
        have h : Lib.indexByte l c ≠ -1 := by simpa using h
        exact .inl (by simp only [List.length_cons]; omega)
theorem idx_at : SumAt 223 idxSum := by
  intro ro hp args r hrun w0 F ρ w l hr hl
  unfold idxSum at hrun
  split at hrun <;> try (cases hrun; done)
  rotate_left
  · rename_i s k c
    split at hrun <;> try (cases hrun; done)
    rename_i hc
    have hc := of_decide_eq_true hc
    subst hc
    injection hrun with hrun; subst hrun
    obtain ⟨x, xs, rfl, ⟨hx, hs⟩, y, ys, rfl, ⟨m, hy, hm⟩, hnil⟩ := hl
    simp only [VRs] at hnil; subst hnil; subst hx; subst hy
    have hm1 := hm.1
    subst hm1
    refine ⟨callsAt 223 _ rfl _, (calls223 _ _ _).mono ?_⟩
    rintro e w' ⟨rfl, rfl⟩
    refine ⟨ρ, Ren.le.refl _, hr, _, rfl, _, rfl, rfl, Lib.indexByte_ge _ _, ?_⟩
    rcases indexByte_lt s c.n.toNat.toUInt8 with h | h <;> simp only at * <;> omega
  rename_i s k c
  split at hrun <;> try (cases hrun; done)
  rename_i hc
  simp only [Bool.and_eq_true, decide_eq_true_eq, ile_iff] at hc
  obtain ⟨⟨rfl, c1⟩, c2⟩ := hc
  obtain ⟨n, h1, h2⟩ := T.run_bind_some hrun
  injection h2 with h2; subst h2
  obtain ⟨x, xs, rfl, ⟨hx, hs⟩, y, ys, rfl, ⟨m, hy, hm⟩, hnil⟩ := hl
  simp only [VRs] at hnil; subst hnil; subst hx; subst hy
  refine ⟨callsAt 223 _ rfl _, (calls223 _ _ _).mono ?_⟩
  rintro e w' ⟨rfl, rfl⟩
  have hm2 := hm.2
  have := findT_sound hm (by omega) hs h1
  have e : n = Lib.indexByte (s.map Ev.byteOf) m.toNat.toUInt8 := by
    rcases this with ⟨g1, g2⟩ | ⟨g1, g2⟩ <;> omega
  subst e
  exact ⟨ρ, Ren.le.refl _, hr, _, rfl, _, rfl, IR.lit _⟩
def cntSum : Summ := fun _ hp args => match args with
  | [.str s, .str t] => match t with
    | [c] => (countT c s 0).bind fun n => .ret (.ret (.int .i64 (I.lit n)), hp)
    | _ => .fail
  | [.ssym s, .str t] => match t with
    | [c] => .ret (.ret (.int .i64 ⟨(Lib.countByte s (Ev.byteOf c) : Nat), 0, 281474976710656⟩), hp)
    | _ => .fail
  | _ => .fail
theorem cnt_at : SumAt 202 cntSum := by
  intro ro hp args r hrun w0 F ρ w l hr hl
  unfold cntSum at hrun
  split at hrun <;> try (cases hrun; done)
  rotate_left
  · rename_i s t
    split at hrun <;> try (cases hrun; done)
    rename_i c
    injection hrun with hrun; subst hrun
    obtain ⟨x, xs, rfl, ⟨hx, hs⟩, y, ys, rfl, ⟨hy, ht⟩, hnil⟩ := hl
    simp only [VRs] at hnil; subst hnil; subst hx; subst hy
    refine ⟨callsAt 202 _ rfl _, (calls202 _ (Ev.byteOf c) _).mono ?_⟩
    rintro e w' ⟨rfl, rfl⟩
    have hle : Lib.countByte s (Ev.byteOf c) ≤ s.length := List.count_le_length
    refine ⟨ρ, Ren.le.refl _, hr, _, rfl, _, rfl, rfl, ?_, ?_⟩ <;> simp only <;> omega
  rename_i s t
  split at hrun <;> try (cases hrun; done)
  rename_i c
  obtain ⟨n, h1, h2⟩ := T.run_bind_some hrun
  injection h2 with h2; subst h2
  obtain ⟨x, xs, rfl, ⟨hx, hs⟩, y, ys, rfl, ⟨hy, ht⟩, hnil⟩ := hl
  simp only [VRs] at hnil; subst hnil; subst hx; subst hy
  have hc := ht c (by simp)
  have hb := byteOf_toNat hc
  refine ⟨callsAt 202 _ rfl _, (calls202 _ (Ev.byteOf c) _).mono ?_⟩
  rintro e w' ⟨rfl, rfl⟩
  have e := countT_sound (m := c.n) ⟨rfl, hc.2.1, hc.2.2.1⟩ (by omega) hs h1
  have e2 : c.n.toNat.toUInt8 = Ev.byteOf c := rfl
  rw [e2] at e
  refine ⟨ρ, Ren.le.refl _, hr, _, rfl, _, rfl, ?_⟩
  rw [e, Nat.zero_add]
  exact IR.lit _
noncomputable def smL (f : Nat) : Option Summ := match Nat.beq f 223 with
  | true => some idxSum
  | false => match Nat.beq f 202 with
    | true => some cntSum
    | false => none
theorem smL_ok : ∀ f s, smL f = some s → SumAt f s := by
  intro f s h
  unfold smL at h
  split at h
  · rename_i e
    have e := Nat.eq_of_beq_eq_true e
    subst e
    injection h with h; subst h; exact idx_at
  · split at h
    · rename_i e
      have e := Nat.eq_of_beq_eq_true e
      subst e
      injection h with h; subst h; exact cnt_at
    · cases h
noncomputable def envL : Env := { env0 with sm := smL }
theorem envLOK : EnvOK Tryz.prog envL := envOK_of tysOK fnsOK mixedOK
noncomputable def callL : CallF := evG envL 10000 1000
theorem callLOK : CallOK Tryz.prog 6 callL := evG_ok envLOK smL_ok 10000 1000
end Go.Proofs.YtlmacdfbdhpljaaGreatDoor
