/- Own text: a cycle on a memory: its summary. -/
import Derived.Test.YtmlfmkebljdoiaaGreatDoorCn
namespace Go.Proofs.YtmlfmkebljdoiaaGreatDoor
open Go.Ev Go.Ev.Tr Go.Proofs
set_option maxRecDepth 1000000
section
variable {P : Program} {w0 : Base} {F : Nat → Prop} {G : Nat} {ro rv : RO} {ρ : Ren} {hp : Hp} {w : World} {bs : List Nat} {bl : List Blk}
/-- A call on blocks of its own: what it returns leads to no block. -/
theorem ownCallC {f : Nat} {args : List V} {v : V} {hp' : Hp} {bl' : List Blk} 
    (hl : Lies hp bs bl) (_ : bs.length = bl.length) (hlen' : bs.length = bl'.length) (_ : bs.Nodup) (hv : v.under 0 = true)
    (hb' : ∀ (i : Nat) b, bl'[i]? = some b → b.under 0 = true ∧ ∃ c, hp'.m.get (G + i) = some c ∧ ∀ (ρ : Ren) tot o, BR ρ tot c o → BR ρ tot b o)
    {l : List Value} (hr : Rel w0 F G ro ρ hp w) (_ : VRs ρ args l) (hg : (∀ w, (callFunc f ⟨l⟩).run P w = .ok (.enter f ⟨l⟩) w) ∧ Calls P f ⟨l⟩ w (EndR ⟨w, renL ρ G bs, G + bl.length⟩ (ownF ρ bs) G rv (renL ρ G bs) (.ret v, hp'))) :
    (∀ w, (callFunc f ⟨l⟩).run P w = .ok (.enter f ⟨l⟩) w) ∧ Calls P f ⟨l⟩ w (EndR w0 F G ro ρ (.ret v, putL hp bs bl')) := by
  obtain ⟨g1, g2⟩ := hg
  refine ⟨g1, g2.mono fun e w' ⟨ρ', k1, k2, x, k3, k4⟩ => ⟨ρ, Ren.le.refl _, ?_, x, k3, under_mono (n := 0) (fun id x _ h => by omega) v x hv k4⟩⟩
  have k2 : Rel ⟨w, renL ρ G bs, G + bl.length⟩ (ownF ρ bs) G rv ρ' hp' w' := k2
  have ownB : ∀ i b : Nat, bs[i]? = some b → ∃ c, hp.m.get b = some c := fun i b h => by
    obtain ⟨c, d, h1, _⟩ := hl i b h
    exact ⟨c, h1⟩
  have notOwn : ∀ id b B t, hp.at ro id = some b → ρ id = some (B, t) → (∀ i : Nat, bs[i]? ≠ some id) → ¬ ownF ρ bs B := fun id b B t h1 h2 h3 ⟨i, b', t', q1, q2⟩ => by
    obtain ⟨c, hcc⟩ := ownB i b' q1
    have := (hr.inj _ _ _ _ _ _ _ h1 (at_get hcc) h2 q2).resolve_right (fun q => by rw [hcc] at q; cases q.2)
    subst this
    exact h3 i q1
  have at' : ∀ id b, (putL hp bs bl').at ro id = some b → (∃ i : Nat, bs[i]? = some id ∧ bl'[i]? = some b) ∨ (hp.at ro id = some b ∧ (∀ i : Nat, bs[i]? ≠ some id) ∧ (putL hp bs bl').m.get id = hp.m.get id) := fun id b h => by
    cases hk : Ev.look id bs bl' with
    | some c =>
      simp only [Hp.at, putL_get, hk, Option.some.injEq] at h
      subst h
      exact .inl (look_some hk)
    | none =>
      refine .inr ⟨?_, look_none hlen' hk, by rw [putL_get, hk]⟩
      simp only [Hp.at, putL_get, hk] at h
      exact h
  have known : ∀ id b, (putL hp bs bl').at ro id = some b → ∃ c, hp.at ro id = some c := fun id b h => by
    rcases at' id b h with ⟨i, h1, _⟩ | ⟨h1, _⟩
    · obtain ⟨c, hcc⟩ := ownB i id h1
      exact ⟨c, at_get hcc⟩
    · exact ⟨b, h1⟩
  refine ⟨fun id b h => ?_, fun id id' b b' B t t' h h' hB hB' => ?_, fun id b h => ?_, fun id h1 h2 => ?_, fun B hB hF => ?_, Nat.le_trans hr.size k2.size, k2.tape.trans hr.tape, k2.os.trans hr.os, k2.output.trans hr.output, hr.glob, fun id x hx => ?_, ?_⟩
  · rcases at' id b h with ⟨i, h1, h2⟩ | ⟨h1, h2, h3⟩
    · obtain ⟨q1, c, q2, q3⟩ := hb' i b h2
      obtain ⟨c0, hc0⟩ := ownB i id h1
      obtain ⟨B, t, o, e1, e2, e3, e4⟩ := hr.blk id c0 (at_get hc0)
      obtain ⟨B1, t1, o1, r1, r2, r3, r4⟩ := k2.blk (G + i) c (at_get q2)
      have := k1 (G + i) (B, t) (by rw [renL_own h1]; exact e1)
      rw [r1] at this
      obtain ⟨rfl, rfl⟩ := Prod.mk.inj (Option.some.inj this)
      exact ⟨B1, t1, o1, e1, r2, BR_under (n := 0) (fun id x _ hlt => by omega) _ _ q1 (q3 _ _ _ r3), .inr (e4.resolve_left (by rw [hc0]; simp))⟩
    · obtain ⟨B, t, o, e1, e2, e3, e4⟩ := hr.blk id b h1
      refine ⟨B, t, o, e1, ?_, e3, by rw [h3]; exact e4⟩
      rw [k2.frame B (lt_of_heap e2) (notOwn id b B t h1 e1 h2)]
      exact e2
  · obtain ⟨c, hc1⟩ := known id b h
    obtain ⟨c', hc2⟩ := known id' b' h'
    have ne : ∀ k, hp.m.get k = none → (putL hp bs bl').m.get k = none := fun k hk => by
      rw [putL_get]
      cases hq : Ev.look k bs bl' with
      | none => exact hk
      | some c0 =>
        obtain ⟨i, h1, _⟩ := look_some hq
        obtain ⟨c2, hc2⟩ := ownB i k h1
        rw [hk] at hc2; cases hc2
    exact (hr.inj _ _ _ _ _ _ _ hc1 hc2 hB hB').imp (fun e => e) fun q => ⟨ne _ q.1, ne _ q.2⟩
  · rw [putL_get] at h
    cases hk : Ev.look id bs bl' with
    | some c =>
      obtain ⟨i, h1, _⟩ := look_some hk
      obtain ⟨c, hcc⟩ := ownB i id h1
      exact hr.sep _ _ hcc
    | none => rw [hk] at h; exact hr.sep _ _ h
  · rw [putL_nxt.1] at h1; rw [putL_nxt.2] at h2
    exact hr.fresh id h1 h2
  · rw [k2.frame B (Nat.lt_of_lt_of_le hB hr.size) ?_]
    · exact hr.frame B hB hF
    · intro ⟨i, b, t, q1, q2⟩
      obtain ⟨c, hcc⟩ := ownB i b q1
      obtain ⟨B1, t1, o1, e1, _, _, e4⟩ := hr.blk b c (at_get hcc)
      rw [q2] at e1
      obtain ⟨rfl, rfl⟩ := Prod.mk.inj (Option.some.inj e1)
      rcases e4.resolve_left (by rw [hcc]; simp) with h | h
      · exact hF h
      · omega
  · rw [putL_nxt.1]; exact hr.ren id x hx
  · rw [putL_nxt.1]; exact hr.le0
end
/-! ### functions of a processor and a memory -/
abbrev Mem := Nat → Int
def memS : BS := .fn .u8 65536 0 255
def memB (m : Mem) : Blk := .fn .u8 65536 m 0 255
def rowV (b : Nat) : V := .slice b 1 (I.lit 0) (I.lit (65536 : Nat)) (65536 : Nat) (65536 : Nat)
def InM (m : Mem) : Prop := ∀ i, i < 65536 → 0 ≤ m i ∧ m i ≤ 255
structure MFn where
  f : Nat
  rng : List (Int × Int)
  ask : Cpu → Mem → List Int → Bool
  out : Cpu → Mem → List Int → Cpu
  mem : Cpu → Mem → List Int → Mem
  ret : Cpu → Mem → List Int → V
def isRow (v : V) (b : Nat) : Bool := okT (b + 1) (.row b 1 65536) v
noncomputable def MFn.sum (s : MFn) : Summ := fun ro hp args => match args with
  | .ptr b o :: v :: xs => match v with
    | .slice b2 _ _ _ _ _ => match roIs ro && isZero o && !(Nat.beq b b2) && isRow v b2 with
      | true => match hp.m.get b with
        | some B1 => match hp.m.get b2 with
          | some B2 => match okB 0 (.cpu 8) B1 && okB 0 memS B2 with
            | true => match intsIn s.rng xs with
              | some ns => .br (s.ask (cpuOf (csOf B1)) (fnOf B2) ns) (.ret (.ret (s.ret (cpuOf (csOf B1)) (fnOf B2) ns), putL hp [b, b2] [.cells (enc 8 (s.out (cpuOf (csOf B1)) (fnOf B2) ns)), memB (s.mem (cpuOf (csOf B1)) (fnOf B2) ns)])) .fail
              | none => .fail
            | false => .fail
          | none => .fail
        | none => .fail
      | false => .fail
    | _ => .fail
  | _ => .fail
/-- What is to be shown of it. -/
def MFn.ok (s : MFn) : Prop := ∀ (c : Cpu) (m : Mem) (ns : List Int), InB 8 c → InM m → InRs s.rng ns → s.ask c m ns = true → V.under 0 (s.ret c m ns) = true ∧ ∃ hp', hp'.m.get 2 = some (.cells (enc 8 (s.out c m ns))) ∧ hp'.m.get 3 = some (memB (s.mem c m ns)) ∧
  ∀ (w0 : Base) (F : Nat → Prop) (ρ : Ren) (w : World) (l : List Value), Rel w0 F 2 ro0 ρ (hpL 2 1000000 [.cells (enc 8 c), memB m]) w → VRs ρ (.ptr 2 (I.lit 0) :: rowV 3 :: encI s.rng ns) l →
    (∀ w, (callFunc s.f ⟨l⟩).run Tryz.prog w = .ok (.enter s.f ⟨l⟩) w) ∧ Calls Tryz.prog s.f ⟨l⟩ w (EndR w0 F 2 ro0 ρ (.ret (s.ret c m ns), hp'))
theorem inM_of {m : Mem} {ρ : Ren} {tot : Nat} {o : Obj} (h : BR ρ tot (memB m) o) : InM m := by
  obtain ⟨l, t, fz, _, _, _, h3, _⟩ := h
  exact fun i hi => (h3 i hi).2
theorem encI_under : ∀ (rs : List (Int × Int)) (ns : List Int), unders 0 (encI rs ns) = true
  | [], _ => by simp [encI, unders]
  | _ :: _, [] => by simp [encI, unders]
  | r :: rs, n :: ns => by simp only [encI, unders, ci, V.under, Bool.true_and]; exact encI_under rs ns
theorem MFn.sound {s : MFn} (h : s.ok) : SumAt s.f s.sum := by
  intro ro hp args r hrun w0 F ρ w l hr hl
  unfold MFn.sum at hrun
  split at hrun <;> try (cases hrun; done)
  rename_i b o v xs
  split at hrun <;> try (cases hrun; done)
  rename_i b2 es o2 len clo chi
  split at hrun <;> try (cases hrun; done)
  rename_i hro
  simp only [Bool.and_eq_true, Bool.not_eq_true'] at hro
  obtain ⟨⟨⟨hro, hz⟩, hne⟩, hrow⟩ := hro
  have hne : b ≠ b2 := Nat.ne_of_beq_eq_false hne
  split at hrun <;> try (cases hrun; done)
  rename_i B1 hB1
  split at hrun <;> try (cases hrun; done)
  rename_i B2 hB2
  split at hrun <;> try (cases hrun; done)
  rename_i hok
  simp only [Bool.and_eq_true] at hok
  split at hrun <;> try (cases hrun; done)
  rename_i ns hns
  simp only [T.run] at hrun
  cases hask : s.ask (cpuOf (csOf B1)) (fnOf B2) ns with
  | false => rw [hask] at hrun; cases hrun
  | true =>
    rw [hask] at hrun
    simp only [cond_true, Option.some.injEq] at hrun
    subst hrun
    obtain ⟨px, l', rfl, hpx, sx, l'', rfl, hsx, hl'⟩ := hl
    obtain ⟨k1, k2⟩ := encB_sound hok.1
    obtain ⟨k3, k4⟩ := encB_sound hok.2
    obtain ⟨C1, t1, o1, e1, e2, e3, e4⟩ := hr.blk b _ (at_get hB1)
    obtain ⟨C2, t2, ob2, f1, f2, f3, f4⟩ := hr.blk b2 _ (at_get hB2)
    have hin : InB 8 (cpuOf (csOf B1)) := by
      obtain ⟨cl, _, _, _, hv, _⟩ := k2 _ _ _ e3
      exact inB_of hv
    have him : InM (fnOf B2) := inM_of (k4 _ _ _ f3)
    obtain ⟨hia, hir⟩ := intsIn_sound hns hl'
    obtain ⟨u, hp', g2, g3, g⟩ := h _ _ ns hin him hir hask
    have hlies : Lies hp [b, b2] [.cells (enc 8 (cpuOf (csOf B1))), memB (fnOf B2)] := fun i b' hb => by
      match i, hb with
      | 0, hb =>
        simp only [List.getElem?_cons_zero, Option.some.injEq] at hb; subst hb
        exact ⟨_, _, hB1, rfl, k1, k2⟩
      | 1, hb =>
        simp only [List.getElem?_cons_succ, List.getElem?_cons_zero, Option.some.injEq] at hb; subst hb
        exact ⟨_, _, hB2, rfl, k3, k4⟩
      | i + 2, hb => simp at hb
    have hrow' := (encT_sound hrow).2 ρ sx hsx
    have hnd : [b, b2].Nodup := by simp [hne]
    have r2 : renL ρ 2 [b, b2] 2 = ρ b := renL_own (ρ := ρ) (G := 2) (bs := [b, b2]) (i := 0) rfl
    have r3 : renL ρ 2 [b, b2] 3 = ρ b2 := renL_own (ρ := ρ) (G := 2) (bs := [b, b2]) (i := 1) rfl
    refine ownCallC (rv := ro0) (bs := [b, b2]) (bl := [.cells (enc 8 (cpuOf (csOf B1))), memB (fnOf B2)]) (hp' := hp') hlies rfl rfl hnd u (fun i b' hb => ?_) hr (args := .ptr b o :: .slice b2 es o2 len clo chi :: xs) ⟨px, _, rfl, hpx, sx, l'', rfl, hsx, hl'⟩ ?_
    · match i, hb with
      | 0, hb =>
        simp only [List.getElem?_cons_zero, Option.some.injEq] at hb; subst hb
        exact ⟨shape_under (enc_shape _), _, g2, fun _ _ _ h => h⟩
      | 1, hb =>
        simp only [List.getElem?_cons_succ, List.getElem?_cons_zero, Option.some.injEq] at hb; subst hb
        exact ⟨rfl, _, g3, fun _ _ _ h => h⟩
      | i + 2, hb => simp at hb
    · refine g _ _ _ w _ (hr.own (roIs_sound hro) ro0OK hlies rfl hnd 1000000) ⟨px, _, rfl, ?_, sx, l'', rfl, ?_, unders_mono (n := 0) (fun id x _ h => by omega) _ l'' ?_ hia⟩
      · obtain ⟨B, tot, n, q1, q2, q3⟩ := hpx
        exact ⟨B, tot, n, by rw [r2]; exact q1, q2, isZero_lit hz q3⟩
      · obtain ⟨B, tot, n, ln, cap, q1, q2⟩ := hrow'
        exact ⟨B, tot, n, ln, cap, by rw [r3]; exact q1, q2⟩
      · exact encI_under _ _
/-! ### a cycle -/
def pk16 (a : Int) : Nat := (pickV a ((65536 : Nat) : Int)).toNat
def wrM (m : Mem) (a v : Int) : Mem := fun j => if j = pk16 a then v else m j
def cycD (c : Cpu) (m : Mem) : Int := bif c.want.k == 1 then m (pk16 c.want.a) else 0
def cycMem (c : Cpu) (m : Mem) : Mem := bif c.want.k == 2 then wrM m c.want.a c.want.d else m
noncomputable def cycT (c : Cpu) (m : Mem) (l d : Int) : Option ((Cpu × Mem) × Int) := bif okC c then some (((tickM c d (l % 32)).1, m), (tickM c d (l % 32)).2) else none
noncomputable def cycleO (c : Cpu) (m : Mem) (l : Int) : Option ((Cpu × Mem) × Int) := bif c.want.k == 1 then
    (bif c.want.k == 2 then cycT c (wrM m c.want.a c.want.d) l (m (pk16 c.want.a)) else cycT c m l (m (pk16 c.want.a)))
  else (bif c.want.k == 2 then cycT c (wrM m c.want.a c.want.d) l 0 else cycT c m l 0)
theorem cycleO_eq (c : Cpu) (m : Mem) (l : Int) (h : okC c = true) : cycleO c m l = some (((tickM c (cycD c m) (l % 32)).1, cycMem c m), (tickM c (cycD c m) (l % 32)).2) := by
  unfold cycleO cycT cycD cycMem
  rw [h]
  cases c.want.k == 1 <;> cases c.want.k == 2 <;> rfl
noncomputable def sm4 (f : Nat) : Option Summ := match Nat.beq f 32 with
  | true => some tick8
  | false => sm1 f
theorem sm4_ok : ∀ f s, sm4 f = some s → SumAt f s := by
  intro f s h
  unfold sm4 at h
  split at h
  · rename_i e
    have e := Nat.eq_of_beq_eq_true e
    subst e
    injection h with h; subst h; exact tick8_at
  · exact sum1OK f s h
noncomputable def env4 : Env := { env0 with sm := sm4, cls := clss }
theorem env4OK : EnvOK Tryz.prog env4 := envOK_of tysOK fnsOK mixedOK
noncomputable def call4 : CallF := evF env4 1000 1000
theorem call4OK : CallOK Tryz.prog 2 call4 := evF_ok env4OK sm4_ok 1000 1000
def viewM (r : AEnd × Hp) : Option ((Cpu × Mem) × Int) := match r.1 with
  | .ret v => match r.2.m.get 2 with
    | some B1 => match r.2.m.get 3 with
      | some B2 => match okB 0 (.cpu 8) B1 && okB 0 memS B2 && okT 0 (.int .i64 0 255) v with
        | true => some ((cpuOf (csOf B1), fnOf B2), nOf v)
        | false => none
      | none => none
    | none => none
  | _ => none
theorem cycle_ev : (fun c m l => ((call4 ro0 27 [.ptr 2 (I.lit 0), rowV 3, i64a l] (hpL 2 1000000 [.cells (enc 8 c), memB m])).bind fun r => T.ofOpt (viewM r)).run) = (fun c m l => cycleO c m l) := by kernel_rfl
noncomputable def cycleFn : MFn := { f := 27, rng := [(-9223372036854775808, 9223372036854775807)], ask := fun c _ _ => okC c, out := fun c m ns => (tickM c (cycD c m) (n0 ns % 32)).1, mem := fun c m _ => cycMem c m, ret := fun c m ns => b8 (tickM c (cycD c m) (n0 ns % 32)).2 }
theorem viewM_sound {e : AEnd} {hp' : Hp} {q : (Cpu × Mem) × Int} (h : viewM (e, hp') = some q) : ∃ v B1 B2, e = .ret v ∧ (∀ (ρ : Ren) x, VR ρ v x → VR ρ (b8 q.2) x) ∧ hp'.m.get 2 = some B1 ∧ hp'.m.get 3 = some B2 ∧ (∀ (ρ : Ren) tot o, BR ρ tot B1 o → BR ρ tot (.cells (enc 8 q.1.1)) o) ∧ (∀ (ρ : Ren) tot o, BR ρ tot B2 o → BR ρ tot (memB q.1.2) o) := by
  unfold viewM at h
  simp only at h
  split at h <;> try contradiction
  rename_i v
  split at h <;> try contradiction
  rename_i B1 hB1
  split at h <;> try contradiction
  rename_i B2 hB2
  split at h <;> try contradiction
  rename_i hc
  simp only [Bool.and_eq_true] at hc
  injection h with h; subst h
  exact ⟨v, B1, B2, rfl, (encT_sound hc.2).2, hB1, hB2, (encB_sound hc.1.1).2, (encB_sound hc.1.2).2⟩
/-- From blocks as they are to blocks as they are told. -/
theorem endR_sub {w0 : Base} {F : Nat → Prop} {ρ : Ren} {v v' : V} {hp' : Hp} {B1 B2 b1 b2 : Blk} (h1 : hp'.m.get 2 = some B1) (h2 : hp'.m.get 3 = some B2) (k1 : ∀ (ρ : Ren) tot o, BR ρ tot B1 o → BR ρ tot b1 o) (k2 : ∀ (ρ : Ren) tot o, BR ρ tot B2 o → BR ρ tot b2 o) (hv : ∀ (ρ : Ren) x, VR ρ v x → VR ρ v' x) {e : Ending} {w : World}
    (h : EndR w0 F 2 ro0 ρ (.ret v, hp') e w) : EndR w0 F 2 ro0 ρ (.ret v', ⟨rowT 2 [b1, b2] .lf, hp'.nxt, hp'.lim⟩) e w := by
  obtain ⟨ρ', g1, g2, x, g3, g4⟩ := h
  refine ⟨ρ', g1, g2.sub rfl rfl (fun id b hb => ?_), x, g3, hv _ _ g4⟩
  simp only [rowT, Tr.get_set] at hb
  by_cases e2 : id = 2
  · subst e2; rw [if_pos rfl] at hb; injection hb with hb; subst hb; exact ⟨B1, h1, k1⟩
  · rw [if_neg e2] at hb
    by_cases e3 : id = 3
    · subst e3; rw [if_pos rfl] at hb; injection hb with hb; subst hb; exact ⟨B2, h2, k2⟩
    · rw [if_neg e3] at hb; cases hb
theorem cycleFn_ok : cycleFn.ok := by
  intro c m ns hin him hr hk
  obtain ⟨l, ms, rfl, hl1, hl2, hms⟩ := hr
  simp only [InRs] at hms; subst hms
  have h := congrFun (congrFun (congrFun cycle_ev c) m) l
  rw [cycleO_eq c m l hk] at h
  obtain ⟨⟨e, hp'⟩, h1, h2⟩ := T.run_bind_some h
  rw [T.run_ofOpt] at h2
  obtain ⟨v, B1, B2, rfl, k1, k2, k3, k4, k5⟩ := viewM_sound h2
  refine ⟨rfl, ⟨rowT 2 [.cells (enc 8 (cycleFn.out c m [l])), memB (cycleFn.mem c m [l])] .lf, hp'.nxt, hp'.lim⟩, rfl, rfl, fun w0 F ρ w vs hrel hvs => ?_⟩
  obtain ⟨g1, g2⟩ := call4OK _ _ _ _ _ h1 w0 F ρ w vs hrel hvs
  exact ⟨g1, g2.mono fun e w' he => endR_sub k2 k3 k4 k5 k1 he⟩
theorem cycle_at : SumAt 27 cycleFn.sum := MFn.sound cycleFn_ok
end Go.Proofs.YtmlfmkebljdoiaaGreatDoor
