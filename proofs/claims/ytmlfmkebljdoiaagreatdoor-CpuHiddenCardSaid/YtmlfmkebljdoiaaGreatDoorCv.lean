/- Own text: runs, so many instructions on a memory: its summary. -/
import Derived.Test.YtmlfmkebljdoiaaGreatDoorCq
namespace Go.Proofs.YtmlfmkebljdoiaaGreatDoor
open Go.Ev Go.Ev.Tr Go.Proofs
set_option maxRecDepth 1000000
def sL : Code → Code
  | .seq a _ => a
  | c => c
def sR : Code → Code
  | .seq _ b => b
  | c => c
def bL : Code → Code
  | .block _ b => b
  | c => c
def lL : Code → Code
  | .loop b => b
  | c => c
def bodyOf (f : Func) : Code := match f.body with
  | some c => c
  | none => .skip
/-! ### the model -/
noncomputable def stepC (c : Cpu) (m : Mem) : Cpu := cycleFn.out c m [0]
noncomputable def stepM (c : Cpu) (m : Mem) : Mem := cycleFn.mem c m [0]
section
variable {β : Type} (KN KR : Int → Cpu → Mem → Option β)
noncomputable def exitK (k : Int) (c : Cpu) (m : Mem) : Option β := bif !(!c.mid) then KR k c m else KN k c m
noncomputable def innerK : Nat → Int → Cpu → Mem → Option β
  | 0, _, _, _ => none
  | 1, k, c, m => bif okC c then (bif !(!(stepC c m).mid) then exitK KN KR (k + 1) (stepC c m) (stepM c m) else exitK KN KR (k + 1) (stepC c m) (stepM c m)) else none
  | j + 2, k, c, m => bif okC c then (bif !(!(stepC c m).mid) then innerK (j + 1) (k + 1) (stepC c m) (stepM c m) else exitK KN KR (k + 1) (stepC c m) (stepM c m)) else none
end
/-- An instruction: how many cycles, and what is then. -/
noncomputable def instrM : Nat → Int → Cpu → Mem → Option (Int × Cpu × Mem)
  | 0, _, _, _ => none
  | j + 1, k, c, m => bif okC c then (bif (stepC c m).mid then instrM j (k + 1) (stepC c m) (stepM c m) else some (k + 1, stepC c m, stepM c m)) else none
theorem innerK_eq {β : Type} {KN KR : Int → Cpu → Mem → Option β} : ∀ {j : Nat} {k : Int} {c : Cpu} {m : Mem} {q : Int × Cpu × Mem}, instrM j k c m = some q → innerK KN KR j k c m = KN q.1 q.2.1 q.2.2
  | 0, _, _, _, _, h => by cases h
  | 1, k, c, m, q, h => by
    unfold instrM at h
    unfold innerK exitK
    cases hk : okC c with
    | false => rw [hk] at h; cases h
    | true =>
      rw [hk] at h
      cases hm : (stepC c m).mid with
      | true => rw [hm] at h; cases h
      | false => rw [hm] at h; simp only [cond_true, cond_false, Option.some.injEq] at h; subst h; rfl
  | j + 2, k, c, m, q, h => by
    unfold instrM at h
    unfold innerK exitK
    cases hk : okC c with
    | false => rw [hk] at h; cases h
    | true =>
      rw [hk] at h
      cases hm : (stepC c m).mid with
      | true =>
        rw [hm] at h
        simp only [cond_true] at h
        simp only [Bool.not_true, Bool.not_false, cond_true]
        exact innerK_eq h
      | false => rw [hm] at h; simp only [cond_true, cond_false, Option.some.injEq] at h; subst h; rfl
/-- So many instructions. -/
noncomputable def runM : Nat → Cpu → Mem → Int → Option (Cpu × Mem × Int)
  | 0, c, m, all => some (c, m, all)
  | n + 1, c, m, all => match instrM 7 0 c m with
    | some q => runM n q.2.1 q.2.2 (IntKind.i64.wrap (all + q.1))
    | none => none
/-! ### the loop -/
noncomputable def sm5 (f : Nat) : Option Summ := match Nat.beq f 27 with
  | true => some cycleFn.sum
  | false => sm4 f
theorem sm5_ok : ∀ f s, sm5 f = some s → SumAt f s := by
  intro f s h
  unfold sm5 at h
  split at h
  · rename_i e
    have e := Nat.eq_of_beq_eq_true e
    subst e
    injection h with h; subst h; exact cycle_at
  · exact sm4_ok f s h
noncomputable def env5 : Env := { env0 with sm := sm5, cls := clss }
theorem env5OK : EnvOK Tryz.prog env5 := envOK_of tysOK fnsOK mixedOK
noncomputable def call5 : CallF := evF env5 1000 1000
theorem call5OK : CallOK Tryz.prog 2 call5 := evF_ok env5OK sm5_ok 1000 1000
noncomputable def c20 : Code := bodyOf Tryz.f20
noncomputable def LB20 : Code := lL (bL (sR (sL (sR (sR c20)))))
def i64S : TS := .int .i64 (-9223372036854775808) 9223372036854775807
def sp20 : LSpec := { ts := [(0, .ptr 2), (1, .row 3 1 65536), (2, i64S), (8, i64S), (9, i64S)], bs := [(2, .cpu 8), (3, memS)], nxt := 4, lim := 1000000 }
structure R20 where
  c : Cpu
  m : Mem
  n : Int
  all : Int
  i : Int
def vi64 (n : Int) : V := i64a n
def cn20 (s : R20) : St := ⟨((((Tr.lf.set 9 (some (vi64 s.i))).set 8 (some (vi64 s.all))).set 2 (some (vi64 s.n))).set 1 (some (rowV 3))).set 0 (some (.ptr 2 (I.lit 0))), [], ⟨(Tr.lf.set 3 (some (memB s.m))).set 2 (some (.cells (enc 8 s.c))), 4, 1000000⟩⟩
def par20 (st : St) : R20 := ⟨cpuOf (csOf (blkAt st.hp.m 2)), fnOf (blkAt st.hp.m 3), nOf (tmpV st.tmps 2), nOf (tmpV st.tmps 8), nOf (tmpV st.tmps 9)⟩
theorem cn20_canon (s : R20) : Canon sp20 (cn20 s) := ⟨rfl, rfl, rfl, fun t => by
  simp only [cn20, Tr.get_set, sp20, inKeys, or_false]
  by_cases h2 : t = 2
  · simp [h2]
  · by_cases h3 : t = 3
    · simp [h3]
    · simp [h2, h3, Tr.get]⟩
theorem par20_eq (st : St) : encSt sp20 st = cn20 (par20 st) := rfl
noncomputable def round20 (s : R20) : Option (X × St) := bif decide (s.i < s.n) then
    innerK (fun k c m => some (X.normal, cn20 ⟨c, m, s.n, IntKind.i64.wrap (s.all + k), IntKind.i64.wrap (s.i + 1)⟩)) (fun _ c m => some (X.ret, cn20 ⟨c, m, s.n, s.all, s.i⟩)) 7 0 s.c s.m
  else some (X.exit 0, cn20 s)
theorem round20_ev : (fun s => roundT env5 ro0 call5 38 sp20 (.code LB20) (cn20 s)) = (fun s => round20 s) := by kernel_rfl
theorem wrap_small {n : Int} (h1 : -1000000000000000000 ≤ n) (h2 : n ≤ 1000000000000000000) : IntKind.i64.wrap n = n := wrap_id (k := .i64) (by show (-9223372036854775808 : Int) ≤ n; omega) (by show n ≤ (9223372036854775807 : Int); omega)
noncomputable def fin20 (s : R20) : Option R20 := match decide (0 ≤ s.i ∧ s.i ≤ s.n ∧ s.n ≤ 1000000) with
  | true => (runM (s.n - s.i).toNat s.c s.m s.all).map fun q => ⟨q.1, q.2.1, s.n, q.2.2, s.n⟩
  | false => none
theorem step20 (s r : R20) (h : fin20 s = some r) : (∃ s', roundT env5 ro0 call5 38 sp20 (.code LB20) (cn20 s) = some (.normal, cn20 s') ∧ fin20 s' = some r ∧ (s'.n - s'.i).toNat < (s.n - s.i).toNat) ∨ roundT env5 ro0 call5 38 sp20 (.code LB20) (cn20 s) = some (.exit 0, cn20 r) := by
  have hev := congrFun round20_ev s
  have hev : roundT env5 ro0 call5 38 sp20 (.code LB20) (cn20 s) = round20 s := hev
  rw [hev]
  unfold fin20 at h
  split at h <;> try (cases h; done)
  rename_i hc
  have hc := of_decide_eq_true hc
  obtain ⟨h0, h1, h2⟩ := hc
  obtain ⟨q, hq, hr⟩ := Option.map_eq_some_iff.1 h
  by_cases hlt : s.i < s.n
  · obtain ⟨k, hk⟩ : ∃ k, (s.n - s.i).toNat = k + 1 := ⟨(s.n - s.i).toNat - 1, by omega⟩
    rw [hk] at hq
    unfold runM at hq
    split at hq <;> try contradiction
    rename_i p hp
    have hw : IntKind.i64.wrap (s.i + 1) = s.i + 1 := wrap_small (by omega) (by omega)
    refine .inl ⟨⟨p.2.1, p.2.2, s.n, IntKind.i64.wrap (s.all + p.1), s.i + 1⟩, ?_, ?_, ?_⟩
    · unfold round20
      rw [decide_eq_true hlt, innerK_eq hp, hw]; rfl
    · unfold fin20
      simp only
      rw [decide_eq_true (show 0 ≤ s.i + 1 ∧ s.i + 1 ≤ s.n ∧ s.n ≤ 1000000 by omega), show (s.n - (s.i + 1)).toNat = k by omega, hq]
      simp only [Option.map_some, Option.some.injEq]
      exact hr
    · show (s.n - (s.i + 1)).toNat < _
      omega
  · have e : s.i = s.n := by omega
    have hz : (s.n - s.i).toNat = 0 := by omega
    rw [hz] at hq
    simp only [runM, Option.some.injEq] at hq
    refine .inr ?_
    unfold round20
    rw [decide_eq_false hlt]
    simp only [cond_false]
    subst hq
    simp only at hr
    have es : (⟨s.c, s.m, s.n, s.all, s.n⟩ : R20) = s := by cases s; simp only at e; subst e; rfl
    rw [← hr, es]
noncomputable def B20 : Code := sR (sL (sR (sR c20)))
theorem B20_eq : B20 = .block 0 (.loop (C2.code LB20).erase) := by kernel_rfl
theorem hook20 : ∀ w0 F, HookOK Tryz.prog env5 w0 F ro0 38 B20 (loopF sp20 par20 cn20 fin20) := by
  rw [B20_eq]
  exact loopF_ok env5OK call5OK (b := .code LB20) (id := 0) (fun _ _ => trivial) cn20_canon (fun st _ => par20_eq st) (μ := fun s => (s.n - s.i).toNat) step20
noncomputable def c2_20 : C2 := .seq (.code (sL c20)) (.seq (.code (sL (sR c20))) (.seq (.seq (.code (sL (sL (sR (sR c20))))) (.hook B20 (loopF sp20 par20 cn20 fin20))) (.code (sR (sR (sR c20))))))
theorem c2_20_eq : Tryz.f20.body = some c2_20.erase := by kernel_rfl
noncomputable def run20 (c : Cpu) (m : Mem) (n : Int) : T (AEnd × Hp) := bodyF2 env5 10000 call5 ro0 Tryz.f20 c2_20 [.ptr 2 (I.lit 0), rowV 3, i64a n] (hpL 2 1000000 [.cells (enc 8 c), memB m])
def viewR (r : AEnd × Hp) : Option ((Cpu × Mem) × Int) := match r.1 with
  | .ret (.tup [v, .bool true]) => match r.2.m.get 2 with
    | some B1 => match r.2.m.get 3 with
      | some B2 => match okB 0 (.cpu 8) B1 && okB 0 memS B2 && okT 0 i64S v with
        | true => some ((cpuOf (csOf B1), fnOf B2), nOf v)
        | false => none
      | none => none
    | none => none
  | _ => none
noncomputable def s20 (c : Cpu) (m : Mem) (n : Int) : R20 := ⟨c, m, n, 0, 0⟩
theorem run20_ev : (fun c m n => ((run20 c m n).bind fun r => T.ofOpt (viewR r)).run) = (fun c m n => bif (fin20 (s20 c m n)).isSome then some ((((fin20 (s20 c m n)).getD (s20 c m n)).c, ((fin20 (s20 c m n)).getD (s20 c m n)).m), ((fin20 (s20 c m n)).getD (s20 c m n)).all) else none) := by kernel_rfl
theorem viewR_sound {e : AEnd} {hp' : Hp} {q : (Cpu × Mem) × Int} (h : viewR (e, hp') = some q) : ∃ v B1 B2, e = .ret (.tup [v, .bool true]) ∧ (∀ (ρ : Ren) x, VR ρ v x → VR ρ (i64a q.2) x) ∧ hp'.m.get 2 = some B1 ∧ hp'.m.get 3 = some B2 ∧ (∀ (ρ : Ren) tot o, BR ρ tot B1 o → BR ρ tot (.cells (enc 8 q.1.1)) o) ∧ (∀ (ρ : Ren) tot o, BR ρ tot B2 o → BR ρ tot (memB q.1.2) o) := by
  unfold viewR at h
  simp only at h
  split at h <;> try contradiction
  rename_i v
  split at h <;> try contradiction
  rename_i B1 hB1
  split at h <;> try contradiction
  rename_i B2 hB2
  split at h <;> try contradiction
  rename_i hc
  simp only [Bool.and_eq_true] at hc
  injection h with h; subst h
  exact ⟨v, B1, B2, rfl, (encT_sound hc.2).2, hB1, hB2, (encB_sound hc.1.1).2, (encB_sound hc.1.2).2⟩
noncomputable def runsR (c : Cpu) (m : Mem) (n : Int) : R20 := (fin20 (s20 c m n)).getD (s20 c m n)
noncomputable def runsFn : MFn := { f := 20, rng := [(-9223372036854775808, 9223372036854775807)], ask := fun c m ns => (fin20 (s20 c m (n0 ns))).isSome, out := fun c m ns => (runsR c m (n0 ns)).c, mem := fun c m ns => (runsR c m (n0 ns)).m, ret := fun c m ns => .tup [i64a (runsR c m (n0 ns)).all, .bool true] }
theorem runsFn_ok : runsFn.ok := by
  intro c m ns hin him hr hk
  obtain ⟨n, ms, rfl, hl1, hl2, hms⟩ := hr
  simp only [InRs] at hms; subst hms
  have hk : (fin20 (s20 c m n)).isSome = true := hk
  have h := congrFun (congrFun (congrFun run20_ev c) m) n
  have h : ((run20 c m n).bind fun r => T.ofOpt (viewR r)).run = bif (fin20 (s20 c m n)).isSome then some (((runsR c m n).c, (runsR c m n).m), (runsR c m n).all) else none := h
  rw [hk] at h
  simp only [cond_true] at h
  obtain ⟨⟨e, hp'⟩, h1, h2⟩ := T.run_bind_some h
  rw [T.run_ofOpt] at h2
  obtain ⟨v, B1, B2, rfl, k1, k2, k3, k4, k5⟩ := viewR_sound h2
  refine ⟨rfl, ⟨rowT 2 [.cells (enc 8 (runsFn.out c m [n])), memB (runsFn.mem c m [n])] .lf, hp'.nxt, hp'.lim⟩, rfl, rfl, fun w0 F ρ w vs hrel hvs => ?_⟩
  refine ⟨Tryz.call20 _, ?_⟩
  unfold run20 at h1
  have g2 := bodyF2_sound (w0 := w0) (F := F) env5OK call5OK Tryz.func20 c2_20_eq (by
    refine ⟨trivial, trivial, ⟨trivial, ?_⟩, trivial⟩
    exact hook20 _ _) h1 hrel hvs
  refine g2.mono fun e w' he => endR_sub k2 k3 k4 k5 (fun ρ x hx => ?_) he
  obtain ⟨l, rfl, x1, xs, rfl, hx1, hxs⟩ := hx
  exact ⟨_, rfl, _, _, rfl, k1 ρ x1 hx1, hxs⟩
theorem runs_at : SumAt 20 runsFn.sum := MFn.sound runsFn_ok
end Go.Proofs.YtmlfmkebljdoiaaGreatDoor
