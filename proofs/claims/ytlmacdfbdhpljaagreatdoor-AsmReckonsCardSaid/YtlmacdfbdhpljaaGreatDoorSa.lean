/- Own text: functions on blocks of their own, with models; a summary for each. -/
import Derived.Test.YtlmacdfbdhpljaaGreatDoorBu
import Derived.Test.YtlmacdfbdhpljaaGreatDoorEvG
namespace Go.Proofs.YtlmacdfbdhpljaaGreatDoor
open Go.Ev Go.Ev.Tr Go.Proofs
set_option maxRecDepth 1000000
/-- What reading gives up with. -/
def slipV : V := .iface 139 (.agg [])
def isSlip : V → Bool
  | .iface t (.agg []) => Nat.beq t 139
  | _ => false
theorem isSlip_eq {v : V} (h : isSlip v = true) : v = slipV := by
  unfold isSlip at h
  split at h
  · have := Nat.eq_of_beq_eq_true h; subst this; rfl
  · cases h
/-- A function on k blocks: σ is what stands in them, A what else it is told, α what it answers. -/
structure SFn0 (σ A α : Type) where
  f : Nat
  k : Nat
  decB : List Blk → Option σ
  encB : σ → List Blk
  inB : σ → Bool
  okA : A → Bool
  okR : α → Bool
  dec : List V → Option A
  encA : A → List V
  decV : V → Option α
  enc : α → V
  dflt : Bool × α × σ
/-- With its model; 'true': it gives up. -/
structure SFn (σ A α : Type) extends SFn0 σ A α where
  pre : σ → A → Bool
  mod : σ → A → Bool × α × σ
def ptrsOf : Nat → List V → Option (List Nat × List V)
  | 0, xs => some ([], xs)
  | n + 1, xs => match xs with
    | v :: ys => match v with
      | .ptr b o => match isZero o with
        | true => match ptrsOf n ys with
          | some (bs, zs) => some (b :: bs, zs)
          | none => none
        | false => none
      | _ => none
    | [] => none
def blksOf (hp : Hp) : List Nat → Option (List Blk)
  | [] => some []
  | b :: bs => match hp.m.get b with
    | some c => match blksOf hp bs with
      | some cs => some (c :: cs)
      | none => none
    | none => none
def distinct : List Nat → Bool
  | [] => true
  | b :: bs => !memN b bs && distinct bs
def SFn.ask {σ A α : Type} (s : SFn σ A α) (x : σ) (a : A) : Bool := s.okA a && s.inB x && s.pre x a
def SFn.sum {σ A α : Type} (s : SFn σ A α) : Summ := fun _ hp args => match ptrsOf s.k args with
  | some (bs, xs) => match blksOf hp bs with
    | some cs => match s.decB cs with
      | some x => match s.dec xs with
        | some a => match distinct bs with
          | true => .br (s.ask x a) (.br (s.mod x a).1 (.ret (.pan slipV, putL hp bs (s.encB (s.mod x a).2.2))) (.ret (.ret (s.enc (s.mod x a).2.1), putL hp bs (s.encB (s.mod x a).2.2)))) .fail
          | false => .fail
        | none => .fail
      | none => .fail
    | none => .fail
  | none => .fail
/-- How an ending is looked at. -/
def endBs (hp : Hp) : Nat → Nat → Option (List Blk × List Nat)
  | _, 0 => some ([], [])
  | b, n + 1 => match hp.m.get b with
    | some c => match convB 20 hp c with
      | some d => match endBs hp (b + 1) n with
        | some (ds, ids) => some (d :: ds, idsB 20 hp c ++ ids)
        | none => none
      | none => none
    | none => none
def noneOf (ids : List Nat) : Nat → Nat → Bool
  | _, 0 => true
  | b, n + 1 => !memN b ids && noneOf ids (b + 1) n
def SFn0.view {σ A α : Type} (s : SFn0 σ A α) (r : AEnd × Hp) : Option (Bool × α × σ) := match convE 20 r.2 r.1 with
  | some e => match endBs r.2 6 s.k with
    | some (ds, ids) => match noneOf (idsE 20 r.2 r.1 ++ ids) 6 s.k with
      | true => match s.decB ds with
        | some x => match e with
          | .ret v => match s.decV v with
            | some u => some (false, u, x)
            | none => none
          | .pan v => match isSlip v with
            | true => some (true, s.dflt.2.1, x)
            | false => none
        | none => none
      | false => none
    | none => none
  | none => none
/-- The model that a run tells. -/
def SFn0.evM {σ A α : Type} (s : SFn0 σ A α) (ev : σ → A → T (AEnd × Hp)) (x : σ) (a : A) : Option (Bool × α × σ) := ((ev x a).bind fun q => match s.view q with
  | some r => .br (s.inB r.2.2 && s.okR r.2.1) (.ret r) .fail
  | none => .fail).run
theorem SFn0.evM_some {σ A α : Type} {s : SFn0 σ A α} {ev : σ → A → T (AEnd × Hp)} {x : σ} {a : A} {r : Bool × α × σ} (h : s.evM ev x a = some r) : (s.inB r.2.2 = true ∧ s.okR r.2.1 = true) ∧ ∃ q, (ev x a).run = some q ∧ s.view q = some r := by
  obtain ⟨q, h1, h2⟩ := T.run_bind_some h
  split at h2
  · rename_i r' hr
    simp only [T.run] at h2
    cases hb : s.inB r'.2.2 && s.okR r'.2.1 with
    | true => rw [hb] at h2; simp only [cond_true, Option.some.injEq] at h2; subst h2; exact ⟨Bool.and_eq_true _ _ ▸ hb, q, h1, hr⟩
    | false => rw [hb] at h2; cases h2
  · cases h2
def ptrArgs : Nat → Nat → List V
  | _, 0 => []
  | b, n + 1 => .ptr b (I.lit 0) :: ptrArgs (b + 1) n
/-- What a run tells of a call. -/
def EvAt (f : Nat) (args : List V) (hp : Hp) (t : T (AEnd × Hp)) : Prop := ∀ r, t.run = some r → ∀ (w0 : Base) (F : Nat → Prop) (ρ : Ren) (w : World) (l : List Value), Rel w0 F 6 noRO ρ hp w → VRs ρ args l →
  (∀ w, (callFunc f ⟨l⟩).run Tryz.prog w = .ok (.enter f ⟨l⟩) w) ∧ Calls Tryz.prog f ⟨l⟩ w (EndR w0 F 6 noRO ρ r)
theorem evAt_call {call : CallF} (hc : CallOK Tryz.prog 6 call) (f : Nat) (args : List V) (hp : Hp) : EvAt f args hp (call noRO f args hp) := fun _ h => hc _ _ _ _ _ h
structure SFn.OK {σ A α : Type} (s : SFn σ A α) (ev : σ → A → T (AEnd × Hp)) : Prop where
  at_ : ∀ x a, EvAt s.f (ptrArgs 6 s.k ++ s.encA a) (hpL 6 1000000 (s.encB x)) (ev x a)
  len : ∀ x, (s.encB x).length = s.k
  decS : ∀ xs a, s.dec xs = some a → s.okA a = true → ∀ (ρ : Ren) l, VRs ρ xs l → VRs ρ (s.encA a) l
  flatA : ∀ a, flats (s.encA a) = true
  flatE : ∀ a, (s.enc a).flat = true
  decVS : ∀ v a, s.decV v = some a → s.okR a = true → ∀ (ρ : Ren) x, VR ρ v x → VR ρ (s.enc a) x
  decBS : ∀ cs x, s.decB cs = some x → s.inB x = true → cs.length = s.k ∧ ∀ (i : Nat) c d, cs[i]? = some c → (s.encB x)[i]? = some d → d.flat = true ∧ ∀ (ρ : Ren) tot o, BR ρ tot c o → BR ρ tot d o
  run : ∀ x a, s.inB x = true → s.okA a = true → s.pre x a = true → s.evM ev x a = some (s.mod x a)
theorem ptrsOf_len : ∀ {n : Nat} {args : List V} {bs : List Nat} {xs : List V}, ptrsOf n args = some (bs, xs) → bs.length = n
  | 0, args, bs, xs, h => by injection h with h; injection h with h1 h2; subst h1; rfl
  | n + 1, args, bs, xs, h => by
    unfold ptrsOf at h
    split at h <;> try contradiction
    split at h <;> try contradiction
    split at h <;> try contradiction
    split at h <;> try contradiction
    rename_i bs' zs hr
    injection h with h; injection h with h1 h2; subst h1
    simp [ptrsOf_len hr]
theorem ptrs_VR {ρ ρ' : Ren} : ∀ {n : Nat} {args : List V} {bs : List Nat} {xs : List V} {l : List Value} {g : Nat} {ys : List V}, ptrsOf n args = some (bs, xs) → VRs ρ args l → (∀ (i b : Nat), bs[i]? = some b → ρ' (g + i) = ρ b) → (∀ l', VRs ρ xs l' → VRs ρ' ys l') → VRs ρ' (ptrArgs g n ++ ys) l
  | 0, args, bs, xs, l, g, ys, h, hv, _, hy => by
    injection h with h; injection h with h1 h2; subst h2
    exact hy l hv
  | n + 1, args, bs, xs, l, g, ys, h, hv, hb, hy => by
    unfold ptrsOf at h
    split at h <;> try contradiction
    rename_i v ys0
    split at h <;> try contradiction
    rename_i b o
    split at h <;> try contradiction
    rename_i hz
    split at h <;> try contradiction
    rename_i bs' zs hr
    injection h with h; injection h with h1 h2; subst h1; subst h2
    obtain ⟨x, xs2, rfl, ⟨B, tot, m, k1, k2, k3⟩, k4⟩ := hv
    have hm : IR (I.lit 0) m := by
      simp only [isZero, Bool.and_eq_true, ieq_iff] at hz
      have := k3.2
      have e : m = 0 := by omega
      rw [e]; exact IR.lit 0
    refine ⟨x, xs2, rfl, ⟨B, tot, m, by rw [← k1]; exact hb 0 b rfl, k2, hm⟩, ptrs_VR hr k4 (fun i b' hi => ?_) hy⟩
    have := hb (i + 1) b' (by simpa using hi)
    rw [show g + 1 + i = g + (i + 1) by omega]; exact this
theorem blksOf_get {hp : Hp} : ∀ {bs : List Nat} {cs : List Blk}, blksOf hp bs = some cs → cs.length = bs.length ∧ ∀ (i b : Nat), bs[i]? = some b → ∃ c, cs[i]? = some c ∧ hp.m.get b = some c
  | [], cs, h => by
    injection h with h; subst h
    refine ⟨rfl, fun i b hi => ?_⟩
    simp at hi
  | b0 :: bs, cs, h => by
    unfold blksOf at h
    split at h <;> try contradiction
    rename_i c hc
    split at h <;> try contradiction
    rename_i cs' hcs
    injection h with h; subst h
    obtain ⟨g1, g2⟩ := blksOf_get hcs
    refine ⟨by simp [g1], fun i b hi => ?_⟩
    cases i with
    | zero => simp at hi; subst hi; exact ⟨c, rfl, hc⟩
    | succ i => simpa using g2 i b (by simpa using hi)
theorem distinct_nodup : ∀ {bs : List Nat}, distinct bs = true → bs.Nodup
  | [], _ => List.nodup_nil
  | b :: bs, h => by
    simp only [distinct, Bool.and_eq_true, Bool.not_eq_true'] at h
    refine List.nodup_cons.2 ⟨fun hm => ?_, distinct_nodup h.2⟩
    rw [memN_iff.2 hm] at h; cases h.1
theorem endBs_get {hp : Hp} : ∀ {n b : Nat} {ds : List Blk} {ids : List Nat}, endBs hp b n = some (ds, ids) → ds.length = n ∧ (∀ j ∈ ids, ∃ c, hp.m.get j = some c) ∧ ∀ (i : Nat) d, ds[i]? = some d → ∃ c, hp.m.get (b + i) = some c ∧ convB 20 hp c = some d ∧ ∀ j ∈ idsB 20 hp c, j ∈ ids
  | 0, b, ds, ids, h => by
    injection h with h; injection h with h1 h2; subst h1; subst h2
    refine ⟨rfl, fun j hj => ?_, fun i d hd => ?_⟩
    · cases hj
    · simp at hd
  | n + 1, b, ds, ids, h => by
    unfold endBs at h
    split at h <;> try contradiction
    rename_i c hc
    split at h <;> try contradiction
    rename_i d hd
    split at h <;> try contradiction
    rename_i ds' ids' hr
    injection h with h; injection h with h1 h2; subst h1; subst h2
    obtain ⟨g1, g2, g3⟩ := endBs_get hr
    refine ⟨by simp [g1], fun j hj => ?_, fun i d' hd' => ?_⟩
    · rcases List.mem_append.1 hj with hj | hj
      · exact idsB_own hj
      · exact g2 j hj
    · cases i with
      | zero =>
        simp at hd'; subst hd'
        exact ⟨c, hc, hd, fun j hj => List.mem_append_left _ hj⟩
      | succ i =>
        obtain ⟨c', k1, k2, k3⟩ := g3 i d' (by simpa using hd')
        exact ⟨c', by rw [show b + (i + 1) = b + 1 + i by omega]; exact k1, k2, fun j hj => List.mem_append_right _ (k3 j hj)⟩
theorem noneOf_get {ids : List Nat} : ∀ {n b i : Nat}, noneOf ids b n = true → i < n → b + i ∉ ids
  | 0, _, _, _, h => by omega
  | n + 1, b, i, h, hi => by
    simp only [noneOf, Bool.and_eq_true, Bool.not_eq_true'] at h
    cases i with
    | zero => intro hm; rw [Nat.add_zero] at hm; rw [memN_iff.2 hm] at h; cases h.1
    | succ i => rw [show b + (i + 1) = b + 1 + i by omega]; exact noneOf_get h.2 (by omega)
theorem SFn.sound {σ A α : Type} {s : SFn σ A α} {ev : σ → A → T (AEnd × Hp)} (hok : s.OK ev) : SumAt s.f s.sum := by
  intro ro hp args r hrun w0 F ρ w l hr hl
  unfold SFn.sum at hrun
  split at hrun <;> try (cases hrun; done)
  rename_i bs xs hps
  split at hrun <;> try (cases hrun; done)
  rename_i cs hcs
  split at hrun <;> try (cases hrun; done)
  rename_i x hx
  split at hrun <;> try (cases hrun; done)
  rename_i a ha
  split at hrun <;> try (cases hrun; done)
  rename_i hdist
  simp only [T.run] at hrun
  cases hask : s.ask x a with
  | false => rw [hask] at hrun; cases hrun
  | true =>
    rw [hask] at hrun
    simp only [cond_true] at hrun
    simp only [SFn.ask, Bool.and_eq_true] at hask
    obtain ⟨⟨hokA, hin⟩, hpre⟩ := hask
    have hm := hok.run x a hin hokA hpre
    generalize s.mod x a = m at hrun hm
    obtain ⟨⟨hin2, hokR⟩, ⟨e, hp'⟩, hq, hview⟩ := SFn0.evM_some hm
    unfold SFn0.view at hview
    split at hview <;> try contradiction
    rename_i e' he'
    split at hview <;> try contradiction
    rename_i ds ids hds
    split at hview <;> try contradiction
    rename_i hno
    split at hview <;> try contradiction
    rename_i x' hx'
    obtain ⟨n1, n2, n3⟩ := endBs_get hds
    obtain ⟨b1, b2⟩ := blksOf_get hcs
    have hbl := ptrsOf_len hps
    obtain ⟨_, d2⟩ := hok.decBS cs x hx hin
    have hlies : LiesF hp bs (s.encB x) := fun i b hb => by
      obtain ⟨c, c1, c2⟩ := b2 i b hb
      have hi : i < bs.length := (List.getElem?_eq_some_iff.1 hb).1
      have hi2 : i < (s.encB x).length := by rw [hok.len]; omega
      obtain ⟨q1, q2⟩ := d2 i c _ c1 (List.getElem?_eq_getElem hi2)
      exact ⟨c, _, c2, List.getElem?_eq_getElem hi2, q1, q2⟩
    have common : ∀ (st : σ), s.decB ds = some st → s.inB st = true → ∀ (i : Nat) b, (s.encB st)[i]? = some b → 6 + i ∉ (idsE 20 hp' e ++ ids) ∧ b.flat = true ∧ ∃ c d, hp'.m.get (6 + i) = some c ∧ convB 20 hp' c = some d ∧ (∀ j ∈ idsB 20 hp' c, j ∈ idsE 20 hp' e ++ ids) ∧ ∀ (ρ : Ren) tot o, BR ρ tot d o → BR ρ tot b o := fun st hst hist i b hb => by
      have hi : i < s.k := by rw [← hok.len st]; exact (List.getElem?_eq_some_iff.1 hb).1
      have hd : ds[i]? = some ds[i] := List.getElem?_eq_getElem (by omega)
      obtain ⟨c, k1, k2, k3⟩ := n3 i _ hd
      obtain ⟨_, q2⟩ := hok.decBS ds st hst hist
      obtain ⟨q3, q4⟩ := q2 i _ b hd hb
      exact ⟨noneOf_get hno hi, q3, c, _, k1, k2, fun j hj => List.mem_append_right _ (k3 j hj), q4⟩
    have hown : ∀ j ∈ idsE 20 hp' e ++ ids, ∃ b, hp'.m.get j = some b := fun j hj => by
      rcases List.mem_append.1 hj with hj | hj
      · exact idsE_own hj
      · exact n2 j hj
    have fin : ∀ (st : σ), s.decB ds = some st → s.inB st = true → (∀ w, (callFunc s.f ⟨l⟩).run Tryz.prog w = .ok (.enter s.f ⟨l⟩) w) ∧ Calls Tryz.prog s.f ⟨l⟩ w (EndR w0 F 6 ro ρ (e', putL hp bs (s.encB st))) := fun st hst hist =>
      ownCallF (hok.at_ x a) (G := 6) (f := s.f) (lim := 1000000) (n := 20) (args := args) (argsL := ptrArgs 6 s.k ++ s.encA a) (bl := s.encB x) (rv := noRO) hq (fun id b h => by cases h) (fun id b h => by cases h) hlies (by rw [hok.len]; exact hbl) (by rw [hok.len]; exact hbl) (distinct_nodup hdist) he' hown (fun j hj => List.mem_append_left _ hj)
        (common st hst hist) hr hl fun hv => ptrs_VR hps hv (fun i b hb => renL_own hb) fun l' hl' => flats_mono (ρ := ρ) (ρ' := renL ρ 6 bs) (fun _ _ h => h) _ _ (hok.flatA a) (hok.decS _ _ ha hokA ρ l' hl')
    split at hview
    · split at hview <;> try contradiction
      rename_i v u hu
      injection hview with hview; subst hview
      simp only [cond_false, Option.some.injEq] at hrun
      subst hrun
      obtain ⟨f1, f2⟩ := fin x' hx' hin2
      refine ⟨f1, f2.mono fun en w' ⟨ρ', q1, q2, y, q3, q4⟩ => ⟨ρ', q1, q2, y, q3, hok.decVS _ _ hu hokR _ _ q4⟩⟩
    · split at hview <;> try contradiction
      rename_i v hv
      injection hview with hview; subst hview
      simp only [cond_true, Option.some.injEq] at hrun
      subst hrun
      rw [isSlip_eq hv] at fin
      exact fin x' hx' hin2
end Go.Proofs.YtlmacdfbdhpljaaGreatDoor
