/- Own text: settle, look, rowOf, finish, dispatching: summaries. -/
import Derived.Test.YtmlfmkebljdoiaaGreatDoorCw
namespace Go.Proofs.YtmlfmkebljdoiaaGreatDoor
open Go.Ev Go.Ev.Tr Go.Proofs
set_option maxRecDepth 1000000
/-! ### the model -/
def settle0 (c : Cpu) (w : W3) : Cpu := { regs := c.cur, cur := c.cur, want := w, mid := false, disp := false, op := 0, sub := 0, step := 0, low := 0, high := 0, pick := 0, due := c.due, twice := c.twice }
def settleM (c : Cpu) : Cpu := bif c.cur.St == 0 then settle0 c (rdW c.cur.PC) else settle0 c idleW
def settleO (c : Cpu) : Option Cpu := bif c.cur.St == 0 then some (settle0 c (rdW c.cur.PC)) else some (settle0 c idleW)
def lookX (c : Cpu) : Cpu := { c with mid := true, disp := true, want := idleW }
def lookM (c : Cpu) (l : Int) : Cpu := bif c.cur.St == 0 then (bif c.cur.IME then (bif !(l == 0) then lookX c else c) else c) else c
def lookO (c : Cpu) (l : Int) : Option Cpu := bif c.cur.St == 0 then (bif c.cur.IME then (bif !(l == 0) then some (lookX c) else some c) else some c) else some c
theorem settleO_eq (c : Cpu) : settleO c = some (settleM c) := some_cond _ _ _
theorem lookO_eq (c : Cpu) (l : Int) : lookO c l = some (lookM c l) := by simp only [lookO, lookM, some_cond]
def setSt (c : Cpu) (n : Int) : Cpu := updCur c { c.cur with St := n }
def finPre (kind : Nat) (c : Cpu) : Cpu := match kind with
  | 3 => { c with due := !c.cur.IME }
  | 4 => { updCur c { c.cur with IME := false } with due := false }
  | 5 => updCur c { c.cur with IME := true }
  | 6 => setSt c 3
  | _ => c
def finEnd {β : Type} (kind : Nat) (c : Cpu) (l : Int) (k : Cpu → β) : β := match kind with
  | 1 => bif l == 0 then k (setSt c 1) else bif !c.cur.IME then k { c with twice := true } else k c
  | 2 => bif l == 0 then k (setSt c 2) else k c
  | _ => k c
def finDue (c : Cpu) : Cpu := { updCur c { c.cur with IME := true } with due := false }
def finK {β : Type} (kind : Nat) (c : Cpu) (l : Int) (k : Cpu → β) : β := match Nat.beq kind 4 with
  | true => finEnd kind (finPre kind c) l fun c => k (lookM (settleM c) l)
  | false => bif c.due then finEnd kind (finDue (finPre kind c)) l fun c => k (lookM (settleM c) l) else finEnd kind (finPre kind c) l fun c => k (lookM (settleM c) l)
def kindOf (c : Cpu) : Nat := kindTab.getD c.op.toNat 0
def finM (c : Cpu) (l : Int) : Cpu := finK (kindOf c) c l id
theorem finEnd_some {α β : Type} (kind : Nat) (c : Cpu) (l : Int) (k : Cpu → α) (f : α → β) : finEnd kind c l (fun c => f (k c)) = f (finEnd kind c l k) := by
  unfold finEnd
  split
  · cases l == 0 <;> simp only [cond_true, cond_false]
    cases !c.cur.IME <;> rfl
  · cases l == 0 <;> rfl
  · rfl
theorem finK_some (kind : Nat) (c : Cpu) (l : Int) : finK kind c l some = some (finK kind c l id) := by
  unfold finK
  split
  · exact finEnd_some kind _ l (fun c => lookM (settleM c) l) some
  · cases c.due
    · exact finEnd_some kind _ l (fun c => lookM (settleM c) l) some
    · exact finEnd_some kind _ l (fun c => lookM (settleM c) l) some
/-- The least line. -/
def lowBit (l : Int) : Int := bvBack .i64 (BitVec.ofInt IntKind.i64.bits l &&& BitVec.ofInt IntKind.i64.bits (0 - l))
def chainK {β : Type} : List (Int × Int) → Int → Int → (Int → β) → β
  | [], _, pc, k => k pc
  | (b, a) :: r, p, pc, k => bif p == b then chainK r p a k else chainK r p pc k
theorem chainK_some {α β : Type} (f : α → β) (k : Int → α) : ∀ (r : List (Int × Int)) (p pc : Int), chainK r p pc (fun n => f (k n)) = f (chainK r p pc k)
  | [], _, _ => rfl
  | (b, a) :: r, p, pc => by
    unfold chainK
    cases p == b <;> simp only [cond_true, cond_false, chainK_some f k r]
def vects : List (Int × Int) := [(1, 64), (2, 72), (4, 80), (8, 88), (16, 96)]
def disp5 (c : Cpu) (pc : Int) : Cpu := settleM (updCur c { c.cur with PC := pc, SP := (c.cur.SP - 2) % 65536, IME := false })
def dispK {β : Type} (c : Cpu) (l s : Int) (k : Cpu × Int → β) : β :=
  bif s == 1 then k ({ c with step := c.step + 1, want := wrW ((c.cur.SP - 1) % 65536) (c.cur.PC / 256) }, 0) else
  bif s == 2 then k ({ c with step := c.step + 1, want := wrW ((c.cur.SP - 2) % 65536) (c.cur.PC % 256) }, 0) else
  bif s == 3 then k ({ c with step := c.step + 1, want := idleW, pick := lowBit l }, 0) else
  bif s == 4 then chainK vects c.pick 0 (fun pc => k (disp5 { c with step := c.step + 1 } pc, c.pick)) else
  k ({ c with step := c.step + 1 }, 0)
def dispM (c : Cpu) (l : Int) : Cpu × Int := dispK c l c.step id
theorem dispK_some {α : Type} (c : Cpu) (l s : Int) (f : Cpu × Int → α) : dispK c l s f = f (dispK c l s id) := by
  unfold dispK
  cases s == 1 <;> simp only [cond_true, cond_false, id]
  cases s == 2 <;> simp only [cond_true, cond_false]
  cases s == 3 <;> simp only [cond_true, cond_false]
  cases s == 4 <;> simp only [cond_true, cond_false]
  exact chainK_some f (fun pc => (disp5 { c with step := c.step + 1 } pc, c.pick)) vects c.pick 0
theorem dispK_cap {α : Type} {c : Cpu} {l s : Int} {k : Cpu × Int → α} (h : 5 ≤ s) : dispK c l s k = k ({ c with step := c.step + 1 }, 0) := by
  unfold dispK
  rw [ne_of_ge h (show (1 : Int) < 5 by omega), ne_of_ge h (show (2 : Int) < 5 by omega), ne_of_ge h (show (3 : Int) < 5 by omega), ne_of_ge h (show (4 : Int) < 5 by omega)]
  rfl
/-! ### what is looked at -/
def viewU (M : Int) (r : AEnd × Hp) : Option Cpu := match r.1 with
  | .ret (.tup []) => match r.2.m.get 2 with
    | some (.cells cs) => match normC (cspec M) cs with
      | some us => some (cpuOf us)
      | none => none
    | _ => none
  | _ => none
def viewI (M : Int) (r : AEnd × Hp) : Option (Cpu × Int) := match r.1 with
  | .ret v => match r.2.m.get 2 with
    | some (.cells cs) => match normC (cspec M) cs with
      | some us => match normC [.i 0 255] [v] with
        | some vs => some (cpuOf us, nAt vs 0)
        | none => none
      | none => none
    | _ => none
  | _ => none
theorem viewU_sound {M : Int} {e : AEnd} {hp' : Hp} {c : Cpu} (h : viewU M (e, hp') = some c) : e = .ret (.tup []) ∧ ∃ cs', hp'.m.get 2 = some (.cells cs') ∧ (∀ (ρ : Ren) l, VRs ρ cs' l → VRs ρ (enc M c) l) := by
  unfold viewU at h
  simp only at h
  split at h <;> try contradiction
  split at h <;> try contradiction
  rename_i cs hcs
  split at h <;> try contradiction
  rename_i us hus
  injection h with h; subst h
  refine ⟨rfl, cs, hcs, fun ρ l hl => ?_⟩
  rw [← enc_of (normC_shape hus)]; exact normC_VR hus hl
theorem viewI_sound {M : Int} {e : AEnd} {hp' : Hp} {q : Cpu × Int} (h : viewI M (e, hp') = some q) : ∃ v, e = .ret v ∧ V.under 0 v = true ∧ (∀ (ρ : Ren) x, VR ρ v x → VR ρ (b8 q.2) x) ∧ ∃ cs', hp'.m.get 2 = some (.cells cs') ∧ (∀ (ρ : Ren) l, VRs ρ cs' l → VRs ρ (enc M q.1) l) := by
  unfold viewI at h
  simp only at h
  split at h <;> try contradiction
  rename_i v
  split at h <;> try contradiction
  rename_i cs hcs
  split at h <;> try contradiction
  rename_i us hus
  split at h <;> try contradiction
  rename_i vs hvs
  injection h with h; subst h
  have hu := normC_under hvs
  simp only [unders, Bool.and_eq_true, and_true] at hu
  refine ⟨v, rfl, hu, fun ρ x hx => ?_, cs, hcs, fun ρ l hl => ?_⟩
  · have hn := normC_VR (ρ := ρ) (l := [x]) hvs ⟨_, _, rfl, hx, rfl⟩
    obtain ⟨n1, _, rfl, hv'⟩ := normC_shape hvs
    simp only [Shape] at hv'; subst hv'
    obtain ⟨_, _, e1, h1, _⟩ := hn
    simp only [List.cons.injEq] at e1
    obtain ⟨rfl, rfl⟩ := e1
    exact h1
  · show VRs ρ (enc M (cpuOf us)) l
    rw [← enc_of (normC_shape hus)]; exact normC_VR hus hl
noncomputable def evU (call : CallF) (M : Int) (f : Nat) (cs xs : List V) : Option Cpu := ((call ro0 f (.ptr 2 (I.lit 0) :: xs) (hpL 2 1000000 [.cells cs])).bind fun r => T.ofOpt (viewU M r)).run
noncomputable def evI (call : CallF) (M : Int) (f : Nat) (cs xs : List V) : Option (Cpu × Int) := ((call ro0 f (.ptr 2 (I.lit 0) :: xs) (hpL 2 1000000 [.cells cs])).bind fun r => T.ofOpt (viewI M r)).run
def retU : V := .tup []
/-- From such a run to what is asked of a summary. -/
theorem okU {call : CallF} {s : CFn} {c : Cpu} {ns : List Int} {cs xs : List V} (h : evU call s.M s.f cs xs = some (s.out c ns)) (hr : s.ret c ns = retU) (u1 : unders 0 cs = true) (u2 : unders 0 xs = true)
    (h1 : ∀ (ρ : Ren) l, VRs ρ (enc s.N c) l → VRs ρ cs l) (h2 : ∀ (ρ : Ren) l, VRs ρ (encI s.rng ns) l → VRs ρ xs l) :
    ∃ cs xs v hp' cs', unders 0 cs = true ∧ unders 0 xs = true ∧
  (∀ (ρ : Ren) l, VRs ρ (enc s.N c) l → VRs ρ cs l) ∧ (∀ (ρ : Ren) l, VRs ρ (encI s.rng ns) l → VRs ρ xs l) ∧
  (call ro0 s.f (.ptr 2 (I.lit 0) :: xs) (hpL 2 1000000 [.cells cs])).run = some (.ret v, hp') ∧ V.under 0 v = true ∧ (∀ (ρ : Ren) x, VR ρ v x → VR ρ (s.ret c ns) x) ∧
  hp'.m.get 2 = some (.cells cs') ∧ (∀ (ρ : Ren) l, VRs ρ cs' l → VRs ρ (enc s.M (s.out c ns)) l) := by
  unfold evU at h
  obtain ⟨⟨e, hp'⟩, k1, k2⟩ := T.run_bind_some h
  rw [T.run_ofOpt] at k2
  obtain ⟨rfl, cs', k3, k4⟩ := viewU_sound k2
  exact ⟨cs, xs, _, hp', cs', u1, u2, h1, h2, k1, rfl, fun ρ x hx => by rw [hr]; exact hx, k3, k4⟩
theorem okI {call : CallF} {s : CFn} {c : Cpu} {ns : List Int} {cs xs : List V} {q : Cpu × Int} (h : evI call s.M s.f cs xs = some q) (ho : s.out c ns = q.1) (hr : s.ret c ns = b8 q.2) (u1 : unders 0 cs = true) (u2 : unders 0 xs = true)
    (h1 : ∀ (ρ : Ren) l, VRs ρ (enc s.N c) l → VRs ρ cs l) (h2 : ∀ (ρ : Ren) l, VRs ρ (encI s.rng ns) l → VRs ρ xs l) :
    ∃ cs xs v hp' cs', unders 0 cs = true ∧ unders 0 xs = true ∧
  (∀ (ρ : Ren) l, VRs ρ (enc s.N c) l → VRs ρ cs l) ∧ (∀ (ρ : Ren) l, VRs ρ (encI s.rng ns) l → VRs ρ xs l) ∧
  (call ro0 s.f (.ptr 2 (I.lit 0) :: xs) (hpL 2 1000000 [.cells cs])).run = some (.ret v, hp') ∧ V.under 0 v = true ∧ (∀ (ρ : Ren) x, VR ρ v x → VR ρ (s.ret c ns) x) ∧
  hp'.m.get 2 = some (.cells cs') ∧ (∀ (ρ : Ren) l, VRs ρ cs' l → VRs ρ (enc s.M (s.out c ns)) l) := by
  unfold evI at h
  obtain ⟨⟨e, hp'⟩, k1, k2⟩ := T.run_bind_some h
  rw [T.run_ofOpt] at k2
  obtain ⟨v, rfl, k5, k6, cs', k3, k4⟩ := viewI_sound k2
  exact ⟨cs, xs, v, hp', cs', u1, u2, h1, h2, k1, k5, fun ρ x hx => by rw [hr]; exact k6 ρ x hx, k3, fun ρ l hl => by rw [ho]; exact k4 ρ l hl⟩
/-! ### settle, look -/
def yes : List V → Bool := fun _ => true
def settleFn : CFn := { f := 48, N := 9, M := 9, rng := [], chk := yes, out := fun c _ => settleM c, ret := fun _ _ => retU }
theorem settle_ev : (fun c => evU call1 9 48 (enc 9 c) []) = (fun c => settleO c) := by kernel_rfl
theorem settleFn_at : SumAt 48 settleFn.sum := by
  refine CFn.sound (s := settleFn) call1OK (P := fun _ => True) (fun _ _ _ _ _ _ _ => trivial) fun c ns hin hr _ => ?_
  have h := congrFun settle_ev c
  rw [settleO_eq] at h
  exact okU (s := settleFn) h rfl (shape_under (enc_shape _)) rfl (fun _ _ h => h) (fun ρ l h => by simpa [settleFn, encI] using h)
def lookFn : CFn := { f := 50, N := 9, M := 9, rng := [(0, 31)], chk := yes, out := fun c ns => lookM c (n0 ns), ret := fun _ _ => retU }
theorem look_ev : (fun c l => evU call1 9 50 (enc 9 c) [ci l 0 31]) = (fun c l => lookO c l) := by kernel_rfl
theorem lookFn_at : SumAt 50 lookFn.sum := by
  refine CFn.sound (s := lookFn) call1OK (P := fun _ => True) (fun _ _ _ _ _ _ _ => trivial) fun c ns hin hr _ => ?_
  obtain ⟨l, ms, rfl, hd1, hd2, hms⟩ := hr
  simp only [InRs] at hms; subst hms
  have h := congrFun (congrFun look_ev c) l
  rw [lookO_eq] at h
  exact okU (s := lookFn) h rfl (shape_under (enc_shape _)) rfl (fun _ _ h => h) (fun ρ l h => h)
/-! ### an act, of an opcode that need not be known -/
noncomputable def actSym (cl : Nat) : Summ := fun ro hp args => match args with
  | .ptr b o :: xs => match hp.m.get b with
    | some (.cells cs) => match cs.getD 29 .any with
      | .int _ i => .br (Nat.beq (clsN i) cl) (({ actFn cl with chk := yes } : CFn).sum ro hp (.ptr b o :: xs)) .fail
      | _ => .fail
    | _ => .fail
  | _ => .fail
def chkSym (cl : Nat) (cs : List V) : Bool := match cs.getD 29 .any with
  | .int _ i => Nat.beq (clsN i) cl
  | _ => false
theorem opN_sound {N : Int} {cs us : List V} {ρ : Ren} {l : List Value} {k : IntKind} {i : I} (hn : normC (cspec N) cs = some us) (hi : cs.getD 29 .any = .int k i) (hv : VRs ρ cs l) : (cpuOf us).op = i.n := by
  have hu := normC_VR hn hv
  rw [enc_of (normC_shape hn)] at hu
  generalize cpuOf us = c at hu
  have h29 : cs[29]? = some (.int k i) := by
    rw [List.getD_eq_getElem?_getD] at hi
    cases h : cs[29]? with
    | none => rw [h] at hi; cases hi
    | some x => rw [h] at hi; simp only [Option.getD_some] at hi; rw [hi]
  obtain ⟨x, hx, n, rfl, hn1⟩ := VRs.get hv h29
  have e29 : (enc N c)[29]? = some (b8 c.op) := rfl
  obtain ⟨y, hy, m, rfl, hm⟩ := VRs.get hu e29
  rw [hx] at hy
  injection hy with hy; injection hy with _ hy; subst hy
  have h1 := hm.1
  have h2 := hn1.1
  simp only at h1
  rw [← h1, h2]
theorem actSym_at (cl : Nat) : SumAt (83 + cl) (actSym cl) := by
  intro ro hp args r hrun w0 F ρ w l hr hl
  unfold actSym at hrun
  split at hrun <;> try (cases hrun; done)
  rename_i b o xs
  split at hrun <;> try (cases hrun; done)
  rename_i cs hcs
  split at hrun <;> try (cases hrun; done)
  rename_i k i hi
  simp only [T.run] at hrun
  cases hb : Nat.beq (clsN i) cl with
  | false => rw [hb] at hrun; cases hrun
  | true =>
    rw [hb] at hrun
    have e : ({ actFn cl with chk := yes } : CFn).sum ro hp (.ptr b o :: xs) = ({ actFn cl with chk := chkSym cl } : CFn).sum ro hp (.ptr b o :: xs) := by
      have h1 : chkSym cl cs = true := by unfold chkSym; rw [hi]; exact hb
      simp only [CFn.sum, hcs, h1, yes]
    simp only [cond_true] at hrun
    rw [e] at hrun
    refine CFn.sound (s := { actFn cl with chk := chkSym cl }) call1OK (P := fun c => rowTab.getD c.op.toNat 0 = cl) (fun cs us ρ l hn hc hv => ?_) (fun c ns a b c' => actFn_ok cl c ns a b c') ro hp _ r hrun w0 F ρ w l hr hl
    have hc : chkSym cl cs = true := hc
    unfold chkSym at hc
    split at hc <;> try (cases hc; done)
    rename_i k2 i2 hi2
    rw [opN_sound hn hi2 hv]
    exact Nat.eq_of_beq_eq_true hc
/-! ### the environment for finish, and for a dispatch -/
noncomputable def sm2 (f : Nat) : Option Summ := match f with
  | 48 => some settleFn.sum
  | 50 => some lookFn.sum
  | 52 => some (rowSum tellKind)
  | _ => sm1 f
theorem sm2_ok : ∀ f s, sm2 f = some s → SumAt f s := by
  intro f s h
  unfold sm2 at h
  split at h
  · injection h with h; subst h; exact settleFn_at
  · injection h with h; subst h; exact lookFn_at
  · injection h with h; subst h; exact rowSum_at fun i v hv => .inl (pickT_run hv)
  · exact sum1OK f s h
noncomputable def env2 : Env := { env0 with sm := sm2, cls := clss }
theorem env2OK : EnvOK Tryz.prog env2 := envOK_of tysOK fnsOK mixedOK
noncomputable def call2 : CallF := evF env2 1000 1000
theorem call2OK : CallOK Tryz.prog 2 call2 := evF_ok env2OK sm2_ok 1000 1000
/-! ### finish -/
def finAll (n : Nat) (c : Cpu) (l : Int) : Nat → Nat → Option Cpu
  | _, 0 => none
  | k, m + 1 => bif Nat.beq n k then finK k c l some else finAll n c l (k + 1) m
theorem finAll_eq {n : Nat} {c : Cpu} {l : Int} : ∀ {m k : Nat}, k ≤ n → n < k + m → finAll n c l k m = finK n c l some
  | 0, k, h1, h2 => by omega
  | m + 1, k, h1, h2 => by
    unfold finAll
    cases hb : Nat.beq n k with
    | true => have := Nat.eq_of_beq_eq_true hb; subst this; rfl
    | false =>
      have : n ≠ k := Nat.ne_of_beq_eq_false hb
      exact finAll_eq (by omega) (by omega)
theorem kindTab_le (op : Nat) : kindTab.getD op 0 < 7 := by
  rcases Nat.lt_or_ge op 256 with h | h
  · have := allN_get (p := fun k => Nat.ble (kindTab.getD k 0 + 1) 7) (n := 256) (k := 0) (by decide +kernel) op h
    simp only [Nat.zero_add] at this
    exact Nat.le_of_ble_eq_true this
  · rw [List.getD_eq_getElem?_getD, List.getElem?_eq_none (by simpa [kindTab] using h)]; simp
def finFn : CFn := { f := 53, N := 9, M := 9, rng := [(0, 31)], chk := yes, out := fun c ns => finM c (n0 ns), ret := fun _ _ => retU }
theorem fin_ev : (fun c l => evU call2 9 53 (enc 9 c) [ci l 0 31]) = (fun c l => finAll (kindTab.getD c.op.toNat 0) c l 0 7) := by kernel_rfl
theorem finFn_at : SumAt 53 finFn.sum := by
  refine CFn.sound (s := finFn) call2OK (P := fun _ => True) (fun _ _ _ _ _ _ _ => trivial) fun c ns hin hr _ => ?_
  obtain ⟨l, ms, rfl, hd1, hd2, hms⟩ := hr
  simp only [InRs] at hms; subst hms
  have h := congrFun (congrFun fin_ev c) l
  rw [finAll_eq (Nat.zero_le _) (by have := kindTab_le c.op.toNat; omega), finK_some] at h
  exact okU (s := finFn) h rfl (shape_under (enc_shape _)) rfl (fun _ _ h => h) (fun ρ l h => h)
/-! ### a dispatch -/
def dispFn : CFn := { f := 49, N := 8, M := 9, rng := [(0, 31)], chk := yes, out := fun c ns => (dispM c (n0 ns)).1, ret := fun c ns => b8 (dispM c (n0 ns)).2 }
noncomputable def lhsD (step : V) (c : Cpu) (l : Int) : Option (Cpu × Int) := evI call2 9 49 (encX c (ci c.cur.St 0 3) (.sbool c.mid) (.sbool c.disp) (b8 c.op) (b8 c.sub) step) [ci l 0 31]
theorem disp_ev : (fun c l => (List.range 5).map fun s : Nat => lhsD (litV s) c l) = (fun c l => (List.range 5).map fun s : Nat => dispK { c with step := (s : Nat) } l (s : Nat) some) := by kernel_rfl
theorem disp_evB : (fun c l => lhsD (ci c.step 5 8) c l) = (fun c _ => some ({ c with step := c.step + 1 }, 0)) := by kernel_rfl
theorem dispFn_at : SumAt 49 dispFn.sum := by
  refine CFn.sound (s := dispFn) call2OK (P := fun _ => True) (fun _ _ _ _ _ _ _ => trivial) fun c ns hin hr _ => ?_
  obtain ⟨l, ms, rfl, hd1, hd2, hms⟩ := hr
  simp only [InRs] at hms; subst hms
  have hst := hin.step
  have main : ∃ step', V.under 0 step' = true ∧ (∀ (ρ : Ren) x, VR ρ (ci c.step 0 8) x → VR ρ step' x) ∧ lhsD step' c l = some (dispM c l) := by
    by_cases h5 : c.step < 5
    · obtain ⟨s, hs⟩ : ∃ s : Nat, c.step = s := ⟨c.step.toNat, by omega⟩
      refine ⟨litV s, rfl, fun ρ => lit_of hs, ?_⟩
      have := List.map_inj_left.1 (congrFun (congrFun disp_ev c) l) s (by simp; omega)
      rw [this, dispK_some, dispM, hs]
      have ec : ({ c with step := (s : Int) } : Cpu) = c := by rw [← hs]
      rw [ec]
    · refine ⟨ci c.step 5 8, rfl, fun ρ => ci_of (by omega) hst.2, ?_⟩
      have := congrFun (congrFun disp_evB c) l
      rw [this, dispM, dispK_cap (by omega)]; rfl
  obtain ⟨step', u1, k1, k2⟩ := main
  exact okI (s := dispFn) k2 rfl rfl (encX_under (by simp only [unders, V.under, ci, b8, u1, Bool.and_self])) rfl (fun ρ l h => encX_VRs h (fun _ h => h) (fun _ h => h) (fun _ h => h) (fun _ h => h) (fun _ h => h) (k1 ρ)) (fun ρ l h => h)
end Go.Proofs.YtmlfmkebljdoiaaGreatDoor
