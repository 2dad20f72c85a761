/- Own text: pick of few things: each by itself; the laws' environment. -/
import Derived.Test.YtmlfmkebljdoiaaGreatDoorCu
import Derived.Test.YtmlfmkebljdoiaaGreatDoorCj
namespace Go.Proofs.YtmlfmkebljdoiaaGreatDoor
open Go.Ev Go.Ev.Tr Go.Proofs Go.ChangeShapes Go.WideShapes Go.ChangeAt Go.RowKit Go.Deep
set_option maxRecDepth 1000000
def pickBr (v : Int) (hp : Hp) : Nat → Nat → T (AEnd × Hp)
  | _, 0 => .fail
  | k, j + 1 => .br (v == ((k : Nat) : Int)) (.ret (.ret (.int .i64 (I.lit (k : Nat))), hp)) (pickBr v hp (k + 1) j)
theorem pickBr_run {v : Int} {hp : Hp} {r : AEnd × Hp} : ∀ {j k : Nat}, (pickBr v hp k j).run = some r → r = (.ret (.int .i64 (I.lit v)), hp)
  | 0, _, h => by cases h
  | j + 1, k, h => by
    unfold pickBr at h
    simp only [T.run] at h
    cases hb : (v == ((k : Nat) : Int)) with
    | true =>
      rw [hb] at h; simp only [cond_true, Option.some.injEq] at h
      have : v = k := by simpa using hb
      rw [this]; exact h.symm
    | false => rw [hb] at h; exact pickBr_run h
def fewOf (c n : I) : Option Nat := match litI n with
  | some m => match Nat.ble 1 m && Nat.ble m 40 && !(ieq c.lo c.hi) && ile (kmin .i64) c.lo && ile c.hi (kmax .i64) with
    | true => some m
    | false => none
  | none => none
def pickSumT : Summ := fun ro hp args => match args with
  | [.int k c, .int k' n] => match decide (k = .i64) && decide (k' = .i64) with
    | true => match fewOf c n with
      | some m => pickBr (pickV c.n m) hp 0 m
      | none => pickSum ro hp [.int .i64 c, .int .i64 n]
    | false => .fail
  | _ => .fail
theorem pickSumT_at : SumAt 16 pickSumT := by
  intro ro hp args r hrun w0 F ρ w l hr hl
  unfold pickSumT at hrun
  split at hrun <;> try (cases hrun; done)
  rename_i k c k' n
  split at hrun <;> try (cases hrun; done)
  rename_i hk
  simp only [Bool.and_eq_true, decide_eq_true_eq] at hk
  obtain ⟨rfl, rfl⟩ := hk
  split at hrun
  · rename_i m hf
    unfold fewOf at hf
    split at hf <;> try contradiction
    rename_i m' hm'
    split at hf <;> try contradiction
    rename_i hc
    injection hf with hf; subst hf
    simp only [Bool.and_eq_true, ile_iff, Bool.not_eq_true'] at hc
    obtain ⟨⟨⟨⟨c1, c2⟩, c3⟩, c4⟩, c5⟩ := hc
    have e := pickBr_run hrun
    subst e
    have hp0 : (pickSum ro hp [.int .i64 c, .int .i64 n]).run = some (.ret (.int .i64 (pickI c m')), hp) := by
      have hb : (Nat.ble 1 m' && Nat.ble m' 65536 && ile (kmin .i64) c.lo && ile c.hi (kmax .i64)) = true := by
        have h1 := Nat.le_of_ble_eq_true c1
        have h2 := Nat.le_of_ble_eq_true c2
        simp only [Bool.and_eq_true, ile_iff]
        exact ⟨⟨⟨c1, Nat.ble_eq_true_of_le (by omega)⟩, c4⟩, c5⟩
      simp only [pickSum, hm', hb]
      rfl
    obtain ⟨g1, g2⟩ := pickSum_sound hp0 hr hl
    refine ⟨g1, g2.mono fun e w' ⟨ρ', q1, q2, x, q3, q4⟩ => ⟨ρ', q1, q2, x, q3, ?_⟩⟩
    obtain ⟨y, rfl, hy⟩ := q4
    refine ⟨y, rfl, ?_⟩
    have : (pickI c m').n = pickV c.n m' := by unfold pickI; rw [c3]
    rw [hy.1, this]; exact IR.lit _
  · exact pickSum_sound hrun hr hl
noncomputable def sm7 (f : Nat) : Option Summ := match Nat.beq f 16 with
  | true => some pickSumT
  | false => sm6 f
theorem sm7_ok : ∀ f s, sm7 f = some s → SumAt f s := by
  intro f s h
  unfold sm7 at h
  split at h
  · rename_i e
    have e := Nat.eq_of_beq_eq_true e
    subst e
    injection h with h; subst h; exact pickSumT_at
  · exact sm6_ok f s h
noncomputable def env7 : Env := { env0 with sm := sm7, cls := clss }
theorem env7OK : EnvOK Tryz.prog env7 := envOK_of tysOK fnsOK mixedOK
noncomputable def call7 : CallF := evF env7 10000 1000
theorem call7OK : CallOK Tryz.prog 2 call7 := evF_ok env7OK sm7_ok 10000 1000
theorem lawEnd7 {f : Nat} {l : List Value} {W : World} {av : List V} {v : V} {hp' : Hp} (hrun : (call7 ro0 f av (startHp 2 1000000)).run = some (.ret v, hp')) (hv : ∀ (ρ : Ren) x, VR ρ v x → x = .bool true)
    (hL : laidMetH Tryz.prog laidL W) (hsh : W.ShapedOpen Tryz.prog) (hl : VRs ren0 av l) : Calls Tryz.prog f ⟨l⟩ W fun e W' => e = .returned (.bool true) ∧ W.keptBut W' (fun _ => False) := by
  obtain ⟨_, g2⟩ := call7OK _ _ _ _ _ hrun _ _ _ W l (rel0 hL hsh) hl
  refine g2.mono fun e W' ⟨ρ', _, hrel, x, hx, hvr⟩ => ?_
  have := hv _ _ hvr
  subst this
  refine ⟨hx, hrel.os, hrel.output, fun i hi => ?_⟩
  have := hrel.frame i hi (fun h => h)
  rw [this]
  cases hw : W.heap[i]? with
  | none => rfl
  | some o => cases o <;> first | rfl | exact ⟨rfl, rfl, rfl, fun _ _ => rfl⟩ | exact .inr ⟨rfl, rfl⟩
/-! ### what the laws share -/
def memOf : List (Int × Int) → Mem
  | [], _ => 0
  | (a, v) :: r, j => if (j : Int) = a then v else memOf r j
def fOk (g : Rg) : Bool := g.F % 16 == 0
theorem bnd_id {g : Rg} (h : InR g) (hf : g.F % 16 = 0) (hs : g.St = 0) : bndR g = g := by
  unfold bndR
  have hF : g.F / 16 * 16 = g.F := by omega
  rw [pickV_id h.hA.1 (by have := h.hA.2; omega), pickV_id h.hF.1 (by have := h.hF.2; omega), pickV_id h.hB.1 (by have := h.hB.2; omega), pickV_id h.hC.1 (by have := h.hC.2; omega), pickV_id h.hD.1 (by have := h.hD.2; omega), pickV_id h.hE.1 (by have := h.hE.2; omega), pickV_id h.hH.1 (by have := h.hH.2; omega), pickV_id h.hL.1 (by have := h.hL.2; omega), pickV_id h.hSP.1 (by have := h.hSP.2; omega), pickV_id h.hPC.1 (by have := h.hPC.2; omega), hF, ← hs]
theorem bnd_f16 (r : Rg) : (bndR r).F % 16 = 0 := by
  show pickV r.F (256 : Nat) / 16 * 16 % 16 = 0
  rw [Int.mul_emod_left]
end Go.Proofs.YtmlfmkebljdoiaaGreatDoor
