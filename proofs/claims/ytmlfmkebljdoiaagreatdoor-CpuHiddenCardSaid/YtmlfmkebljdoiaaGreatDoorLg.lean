/- Own text: loops within laws: what serves them all. -/
import Derived.Test.YtmlfmkebljdoiaaGreatDoorCp
namespace Go.Proofs.YtmlfmkebljdoiaaGreatDoor
open Go.Ev Go.Ev.Tr Go.Proofs Go.ChangeShapes Go.WideShapes Go.ChangeAt Go.RowKit Go.Deep
set_option maxRecDepth 1000000
def sRn : Nat → Code → Code
  | 0, c => c
  | n + 1, c => sRn n (sR c)
def pre : Nat → Code → C2 → C2
  | 0, _, t => t
  | n + 1, c, t => .seq (.code (sL c)) (pre n (sR c) t)
/-- Registers as a block of their own: what is known of each. -/
structure GX where
  a0 : I
  a1 : I
  a2 : I
  a3 : I
  a4 : I
  a5 : I
  a6 : I
  a7 : I
  a9 : I
  b : Bool
  a11 : I
def gxB (x : GX) (sp : I) : Blk := .cells [.int .i64 x.a0, .int .i64 x.a1, .int .i64 x.a2, .int .i64 x.a3, .int .i64 x.a4, .int .i64 x.a5, .int .i64 x.a6, .int .i64 x.a7, .int .i64 sp, .int .i64 x.a9, .sbool x.b, .int .i64 x.a11]
/-- The loop, told, where what it leaves is plain. -/
noncomputable def loopG {σ : Type} (sp : LSpec) (par : St → σ) (cn : σ → St) (fin : σ → Option σ) (nx : σ → σ) (st : St) : T (X × St) := match okSt sp st && Nat.beq st.hp.nxt sp.nxt && Nat.beq st.hp.lim sp.lim with
  | true => .br (fin (par st)).isSome (.ret (.normal, cn (nx (par st)))) .fail
  | false => .fail
theorem loopG_ok {P : Program} {E : Env} {w0 : Base} {F : Nat → Prop} {ro : RO} {nt : Nat} {c : Code} {σ : Type} {sp : LSpec} {par : St → σ} {cn : σ → St} {fin : σ → Option σ} {nx : σ → σ} (h : ∀ s r, fin s = some r → r = nx s) (hk : HookOK P E w0 F ro nt c (loopF sp par cn fin)) : HookOK P E w0 F ro nt c (loopG sp par cn fin nx) := by
  intro ρ st a w r hs hr
  refine hk ρ st a w r hs ?_
  unfold loopG at hr
  unfold loopF
  split at hr
  · rename_i hc
    rw [hc]
    simp only [T.run] at hr ⊢
    cases hf : fin (par st) with
    | none => rw [hf] at hr; cases hr
    | some q =>
      rw [hf] at hr
      simp only [Option.isSome_some, cond_true, Option.getD_some] at hr ⊢
      rw [h _ _ hf]; exact hr
  · cases hr
theorem lawEndB {f : Nat} {fn : Func} {c : C2} {l : List Value} {W : World} {av : List V} {v : V} {hp' : Hp} (hf : Tryz.prog.funcs[f]? = some fn) (hb : fn.body = some c.erase) (hok : ∀ w0 F, c.ok Tryz.prog env7 w0 F ro0 fn.ntmps)
    (hrun : (bodyF2 env7 10000 call7 ro0 fn c av (startHp 2 1000000)).run = some (.ret v, hp')) (hv : ∀ (ρ : Ren) x, VR ρ v x → x = .bool true)
    (hL : laidMetH Tryz.prog laidL W) (hsh : W.ShapedOpen Tryz.prog) (hl : VRs ren0 av l) : Calls Tryz.prog f ⟨l⟩ W fun e W' => e = .returned (.bool true) ∧ W.keptBut W' (fun _ => False) := by
  have g2 := bodyF2_sound env7OK call7OK hf hb (hok _ _) hrun (rel0 hL hsh) hl
  refine g2.mono fun e W' ⟨ρ', _, hrel, x, hx, hvr⟩ => ?_
  have := hv _ _ hvr
  subst this
  refine ⟨hx, hrel.os, hrel.output, fun i hi => ?_⟩
  have := hrel.frame i hi (fun h => h)
  rw [this]
  cases hw : W.heap[i]? with
  | none => rfl
  | some o => cases o <;> first | rfl | exact ⟨rfl, rfl, rfl, fun _ _ => rfl⟩ | exact .inr ⟨rfl, rfl⟩
end Go.Proofs.YtmlfmkebljdoiaaGreatDoor
