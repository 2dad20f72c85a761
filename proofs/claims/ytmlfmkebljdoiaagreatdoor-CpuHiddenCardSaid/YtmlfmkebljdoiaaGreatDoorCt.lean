/- Own text: a machine cycle of the processor: its summary. -/
import Derived.Test.YtmlfmkebljdoiaaGreatDoorCd
namespace Go.Proofs.YtmlfmkebljdoiaaGreatDoor
open Go.Ev Go.Ev.Tr Go.Proofs
set_option maxRecDepth 1000000
/-! ### the model -/
def chainCls {β : Type} (n : Nat) (x : Option β) : Nat → Nat → Option β
  | _, 0 => none
  | k, m + 1 => bif Nat.beq n k then (bif Nat.beq n k then x else none) else chainCls n x (k + 1) m
theorem chainCls_eq {β : Type} {n : Nat} {x : Option β} : ∀ {m k : Nat}, k ≤ n → n < k + m → chainCls n x k m = x
  | 0, k, h1, h2 => by omega
  | m + 1, k, h1, h2 => by
    unfold chainCls
    cases hb : Nat.beq n k with
    | true => rfl
    | false =>
      have : n ≠ k := Nat.ne_of_beq_eq_false hb
      exact chainCls_eq (by omega) (by omega)
/-- The end of a cycle: the act, and what is behind it. -/
noncomputable def actEndO (q : ActR) (l : Int) : Option (Cpu × Int) := bif q.done then some (finM { q.c with want := q.w } l, 0) else some ({ q.c with want := q.w }, 0)
noncomputable def actEnd (q : ActR) (l : Int) : Cpu := bif q.done then finM { q.c with want := q.w } l else { q.c with want := q.w }
theorem actEndO_eq (q : ActR) (l : Int) : actEndO q l = some (actEnd q l, 0) := by unfold actEndO actEnd; cases q.done <;> rfl
noncomputable def cycO (c : Cpu) (d l : Int) : Option (Cpu × Int) := chainCls (rowTab.getD c.op.toNat 0) (actEndO (actR c d) l) 0 29
noncomputable def cycM (c : Cpu) (d l : Int) : Cpu := actEnd (actR c d) l
theorem cycO_eq (c : Cpu) (d l : Int) : cycO c d l = some (cycM c d l, 0) := by
  unfold cycO
  rw [chainCls_eq (Nat.zero_le _) (by have := rowTab_le c.op.toNat; omega), actEndO_eq]; rfl
def fetchM (c : Cpu) (d : Int) : Cpu := let c1 : Cpu := { c with mid := true, op := d }; { (bif !c.twice then passM c1 else c1) with twice := false }
/-- A machine cycle: the processor behind it, and the line that is taken. -/
noncomputable def tickM (c : Cpu) (d l : Int) : Cpu × Int :=
  bif c.disp then dispM c l else
  bif c.mid then (cycM { c with step := c.step + 1 } d l, 0) else
  bif !(c.cur.St == 0) then
    (bif !(c.cur.St == 3) then (bif !(l == 0) then (lookM (settleM (setSt c 0)) l, 0) else (c, 0)) else (c, 0)) else
  (cycM (fetchM c d) d l, 0)
/-! ### the environment -/
noncomputable def sm3 (f : Nat) : Option Summ := match f with
  | 48 => some settleFn.sum
  | 49 => some dispFn.sum
  | 50 => some lookFn.sum
  | 52 => some (rowSum tellCls)
  | 53 => some finFn.sum
  | _ => match Nat.ble 83 f && Nat.ble f 111 with
    | true => some (actSym (f - 83))
    | false => sm1 f
theorem sm3_ok : ∀ f s, sm3 f = some s → SumAt f s := by
  intro f s h
  unfold sm3 at h
  split at h
  · injection h with h; subst h; exact settleFn_at
  · injection h with h; subst h; exact dispFn_at
  · injection h with h; subst h; exact lookFn_at
  · injection h with h; subst h; exact rowSum_at fun i v hv => .inr (pickT_run hv)
  · injection h with h; subst h; exact finFn_at
  · split at h
    · rename_i hf
      simp only [Bool.and_eq_true] at hf
      have hf := Nat.le_of_ble_eq_true hf.1
      injection h with h; subst h
      have := actSym_at (f - 83)
      rwa [show 83 + (f - 83) = f by omega] at this
    · exact sum1OK f s h
noncomputable def env3 : Env := { env0 with sm := sm3, cls := clss }
theorem env3OK : EnvOK Tryz.prog env3 := envOK_of tysOK fnsOK mixedOK
noncomputable def call3 : CallF := evF env3 1000 1000
theorem call3OK : CallOK Tryz.prog 2 call3 := evF_ok env3OK sm3_ok 1000 1000
/-! ### the four ways -/
def i64a (l : Int) : V := ci l (-9223372036854775808) 9223372036854775807
noncomputable def lhsT (st mid disp : V) (c : Cpu) (d l : Int) : Option (Cpu × Int) := evI call3 9 32 (encX c st mid disp (b8 c.op) (b8 c.sub) (ci c.step 0 8)) [b8 d, i64a l]
theorem tickD : (fun c d l => lhsT (ci c.cur.St 0 3) (.sbool c.mid) (.bool true) c d l) = (fun c _ l => some (dispM { c with disp := true } (l % 32))) := by kernel_rfl
theorem tickMid : (fun c d l => lhsT (ci c.cur.St 0 3) (.bool true) (.bool false) c d l) = (fun c d l => cycO { c with mid := true, disp := false, step := c.step + 1 } d (l % 32)) := by kernel_rfl
theorem tickS : (fun c d l => lhsT (ci c.cur.St 1 3) (.bool false) (.bool false) c d l) = (fun c _ l => bif !(c.cur.St == 3) then (bif !(l % 32 == 0) then some (lookM (settleM (setSt { c with mid := false, disp := false } 0)) (l % 32), 0) else some ({ c with mid := false, disp := false }, 0)) else some ({ c with mid := false, disp := false }, 0)) := by kernel_rfl
theorem tickF : (fun c d l => lhsT (litV 0) (.bool false) (.bool false) c d l) = (fun c d l => bif !c.twice then cycO { passM { (setSt c 0) with mid := true, disp := false, op := d } with twice := false } d (l % 32) else cycO { (setSt c 0) with mid := true, disp := false, op := d, twice := false } d (l % 32)) := by kernel_rfl
noncomputable def tickFn : CFn := { f := 32, N := 8, M := 9, rng := [(0, 255), (-9223372036854775808, 9223372036854775807)], chk := yes, out := fun c ns => (tickM c (n0 ns) (n1 ns % 32)).1, ret := fun c ns => b8 (tickM c (n0 ns) (n1 ns % 32)).2 }
theorem tick_run {c : Cpu} {d l : Int} (hin : InB 8 c) : ∃ st mid disp, unders 0 [st, mid, disp] = true ∧ lhsT st mid disp c d l = some (tickM c d (l % 32)) ∧
    (∀ (ρ : Ren) x, VR ρ (ci c.cur.St 0 3) x → VR ρ st x) ∧ (∀ (ρ : Ren) x, VR ρ (.sbool c.mid) x → VR ρ mid x) ∧ (∀ (ρ : Ren) x, VR ρ (.sbool c.disp) x → VR ρ disp x) := by
  have hst := hin.cur.hSt
  obtain ⟨rg, ⟨cA, cF, cB, cC, cD, cE, cH, cL, cSP, cPC, cI, cSt⟩, wt, mid, disp, op, sub, step, low, high, pick, due, twice⟩ := c
  cases disp with
  | true =>
    refine ⟨ci cSt 0 3, .sbool mid, .bool true, rfl, ?_, fun _ _ h => h, fun _ _ h => h, fun ρ => bool_of rfl⟩
    exact congrFun (congrFun (congrFun tickD _) d) l
  | false =>
    cases mid with
    | true =>
      refine ⟨ci cSt 0 3, .bool true, .bool false, rfl, ?_, fun _ _ h => h, fun ρ => bool_of rfl, fun ρ => bool_of rfl⟩
      refine (congrFun (congrFun (congrFun tickMid _) d) l).trans ?_
      exact cycO_eq _ _ _
    | false =>
      have hst : 0 ≤ cSt ∧ cSt ≤ 3 := hst
      by_cases hz : cSt = 0
      · subst hz
        refine ⟨litV 0, .bool false, .bool false, rfl, ?_, fun ρ => lit_of rfl, fun ρ => bool_of rfl, fun ρ => bool_of rfl⟩
        refine (congrFun (congrFun (congrFun tickF _) d) l).trans ?_
        simp only [cycO_eq]
        cases twice <;> rfl
      · refine ⟨ci cSt 1 3, .bool false, .bool false, rfl, ?_, fun ρ => ci_of (show (1 : Int) ≤ cSt by omega) hst.2, fun ρ => bool_of rfl, fun ρ => bool_of rfl⟩
        refine (congrFun (congrFun (congrFun tickS _) d) l).trans ?_
        have hz' : (!(cSt == 0)) = true := by simp [hz]
        unfold tickM
        simp only [hz', cond_false, cond_true, some_cond]
theorem tickFn_ok : tickFn.ok call3 (fun _ => True) := by
  intro c ns hin hr _
  obtain ⟨d, ms, rfl, hd1, hd2, l, ms2, rfl, hl1, hl2, hms⟩ := hr
  simp only [InRs] at hms; subst hms
  obtain ⟨st, mid, disp, hu, hev, h1, h2, h3⟩ := tick_run (d := d) (l := l) hin
  simp only [unders, Bool.and_eq_true, and_true] at hu
  obtain ⟨u1, u2, u3⟩ := hu
  exact okI (s := tickFn) hev rfl rfl (encX_under (by simp only [unders, V.under, ci, b8, u1, u2, u3, Bool.and_self])) rfl (fun ρ l h => encX_VRs h (h1 ρ) (h2 ρ) (h3 ρ) (fun _ h => h) (fun _ h => h) (fun _ h => h)) (fun ρ l h => h)
end Go.Proofs.YtmlfmkebljdoiaaGreatDoor
