/- Own text: asm.Info and waits: their summaries; the environment of CpuTimed. -/
import Derived.Test.YtmlfmkebljdoiaaGreatDoorTi
import Derived.Test.YtmlfmkebljdoiaaGreatDoorCu
namespace Go.Proofs.YtmlfmkebljdoiaaGreatDoor
open Go.Ev Go.Ev.Tr Go.Proofs Go.ChangeShapes Go.WideShapes Go.ChangeAt Go.RowKit Go.Deep
set_option maxRecDepth 1000000
def nameI (b : Bool) (k : Int) : List UInt8 := ((rowI b k).1.map fun n => I.lit (n : Nat)).map Go.Ev.byteOf
def infoV (b : Bool) (k : Int) : V := .tup [.agg [.ssym (nameI b k), .int .i64 ⟨bytI b k, 0, 3⟩, .int .i64 ⟨cycI b k, 0, 24⟩, .int .i64 ⟨takI b k, 0, 24⟩], .int .i64 ⟨errI b k, 0, 21⟩]
def infoSum : Summ := fun _ hp args => match args with
  | [.int k c, .bool b] => match decide (k = .i64) && ile 0 c.lo && ile c.hi 255 with
    | true => .ret (.ret (infoV b c.n), hp)
    | false => .fail
  | _ => .fail
theorem tab_bounds : ∀ k, k < 512 → (infoTab.getD k ([], 0, 0, 0, 0)).2.1 ≤ 3 ∧ (infoTab.getD k ([], 0, 0, 0, 0)).2.2.1 ≤ 24 ∧ (infoTab.getD k ([], 0, 0, 0, 0)).2.2.2.1 ≤ 24 ∧ (infoTab.getD k ([], 0, 0, 0, 0)).2.2.2.2 ≤ 21 := by decide +kernel
theorem infoAt_VR {ρ : Ren} {b : Bool} {k : Nat} (hk : k < 256) {x : Value} (h : VR ρ (infoAt (infoTab.getD (k + bif b then 256 else 0) ([], 0, 0, 0, 0))) x) : VR ρ (infoV b k) x := by
  have hb := tab_bounds (k + bif b then 256 else 0) (by cases b <;> simp <;> omega)
  have hr : rowI b (k : Int) = infoTab.getD (k + bif b then 256 else 0) ([], 0, 0, 0, 0) := by unfold rowI; rw [Int.toNat_natCast]
  unfold infoV nameI bytI cycI takI errI
  rw [hr]
  generalize infoTab.getD (k + bif b then 256 else 0) ([], 0, 0, 0, 0) = r at hb h ⊢
  obtain ⟨b1, b2, b3, b4⟩ := hb
  obtain ⟨l, rfl, x1, xs1, rfl, hx1, x2, xs2, rfl, ⟨n2, rfl, hx2⟩, hnil⟩ := h
  simp only [VRs] at hnil; subst hnil
  obtain ⟨l, rfl, y1, ys1, rfl, ⟨rfl, _⟩, y2, ys2, rfl, ⟨m2, rfl, hy2⟩, y3, ys3, rfl, ⟨m3, rfl, hy3⟩, y4, ys4, rfl, ⟨m4, rfl, hy4⟩, hnil⟩ := hx1
  simp only [VRs] at hnil; subst hnil
  have c : ∀ {a m : Int} {n h : Nat}, IR (I.lit (n : Nat)) m → n ≤ h → IR ⟨(n : Int), 0, h⟩ m := fun {a m} {n h} hi hn => by
    have h1 := hi.1
    have h1 : m = n := h1
    refine ⟨h1, ?_, ?_⟩
    · show (0 : Int) ≤ m; omega
    · show m ≤ (h : Int); omega
  exact ⟨_, rfl, _, _, rfl, ⟨_, rfl, _, _, rfl, rfl, _, _, rfl, ⟨_, rfl, c (a := 0) hy2 b1⟩, _, _, rfl, ⟨_, rfl, c (a := 0) hy3 b2⟩, _, _, rfl, ⟨_, rfl, c (a := 0) hy4 b3⟩, rfl⟩, _, _, rfl, ⟨_, rfl, c (a := 0) hx2 b4⟩, rfl⟩
theorem infoSum_at : SumAt 40 infoSum := by
  intro ro hp args r hrun w0 F ρ w l hr hl
  unfold infoSum at hrun
  split at hrun <;> try (cases hrun; done)
  rename_i k c b
  split at hrun <;> try (cases hrun; done)
  rename_i hc
  simp only [Bool.and_eq_true, decide_eq_true_eq, ile_iff] at hc
  obtain ⟨⟨rfl, c1⟩, c2⟩ := hc
  injection hrun with hrun; subst hrun
  obtain ⟨x, xs, rfl, ⟨cv, rfl, hcv⟩, y, ys, rfl, hy, hnil⟩ := hl
  simp only [VRs] at hnil; subst hnil
  have e1 := hcv.1
  have e2 := hcv.2
  obtain ⟨q, rfl⟩ : ∃ q : Nat, cv = q := ⟨cv.toNat, by omega⟩
  have hq : q < 256 := by omega
  have ho := info_all b q hq
  obtain ⟨u, hp', hrun⟩ := retIs_sound ho
  have hvs : VRs ρ [.int .i64 (I.lit (q : Nat)), .bool b] [.int .i64 q, y] := ⟨_, _, rfl, ⟨q, rfl, IR.lit _⟩, _, _, rfl, hy, rfl⟩
  obtain ⟨g1, g2⟩ := pureCall call0OK (f := 40) (L := 1000000) hrun u rfl hr hvs
  refine ⟨g1, g2.mono fun e w' ⟨ρ', k1, k2, x, hx, hv⟩ => ⟨ρ', k1, k2, x, hx, ?_⟩⟩
  rw [← e1]; exact infoAt_VR hq hv
/-! ### waits -/
noncomputable def wtRun (k : I) (F : Int) : T (AEnd × Hp) := call0 noRO 41 [.int .i64 k, .int .i64 ⟨F, 0, 255⟩] (startHp 2 1000000)
def wk : List Int := [32, 40, 48, 56, 192, 200, 208, 216, 194, 202, 210, 218, 196, 204, 212, 220]
theorem wt_none : (fun k F => lawPath (wk.map fun _ => false) (wtRun ⟨k, 0, 255⟩ F)) = (fun k F => some (wk.map fun j => k == j, some false)) := by kernel_rfl
theorem wt32 : (fun F => lawPath [] (wtRun (I.lit 32) F)) = (fun F => some ([], some (!holdsM 0 F))) := by kernel_rfl
theorem wt40 : (fun F => lawPath [] (wtRun (I.lit 40) F)) = (fun F => some ([], some (!holdsM 1 F))) := by kernel_rfl
theorem wt48 : (fun F => lawPath [] (wtRun (I.lit 48) F)) = (fun F => some ([], some (!holdsM 2 F))) := by kernel_rfl
theorem wt56 : (fun F => lawPath [] (wtRun (I.lit 56) F)) = (fun F => some ([], some (!holdsM 3 F))) := by kernel_rfl
theorem wt192 : (fun F => lawPath [] (wtRun (I.lit 192) F)) = (fun F => some ([], some (!holdsM 0 F))) := by kernel_rfl
theorem wt200 : (fun F => lawPath [] (wtRun (I.lit 200) F)) = (fun F => some ([], some (!holdsM 1 F))) := by kernel_rfl
theorem wt208 : (fun F => lawPath [] (wtRun (I.lit 208) F)) = (fun F => some ([], some (!holdsM 2 F))) := by kernel_rfl
theorem wt216 : (fun F => lawPath [] (wtRun (I.lit 216) F)) = (fun F => some ([], some (!holdsM 3 F))) := by kernel_rfl
theorem wt194 : (fun F => lawPath [] (wtRun (I.lit 194) F)) = (fun F => some ([], some (!holdsM 0 F))) := by kernel_rfl
theorem wt202 : (fun F => lawPath [] (wtRun (I.lit 202) F)) = (fun F => some ([], some (!holdsM 1 F))) := by kernel_rfl
theorem wt210 : (fun F => lawPath [] (wtRun (I.lit 210) F)) = (fun F => some ([], some (!holdsM 2 F))) := by kernel_rfl
theorem wt218 : (fun F => lawPath [] (wtRun (I.lit 218) F)) = (fun F => some ([], some (!holdsM 3 F))) := by kernel_rfl
theorem wt196 : (fun F => lawPath [] (wtRun (I.lit 196) F)) = (fun F => some ([], some (!holdsM 0 F))) := by kernel_rfl
theorem wt204 : (fun F => lawPath [] (wtRun (I.lit 204) F)) = (fun F => some ([], some (!holdsM 1 F))) := by kernel_rfl
theorem wt212 : (fun F => lawPath [] (wtRun (I.lit 212) F)) = (fun F => some ([], some (!holdsM 2 F))) := by kernel_rfl
theorem wt220 : (fun F => lawPath [] (wtRun (I.lit 220) F)) = (fun F => some ([], some (!holdsM 3 F))) := by kernel_rfl
theorem lawPath_val {bs : List Bool} {t : T (AEnd × Hp)} {cs : List Bool} {b : Bool} (h : lawPath bs t = some (cs, some b)) (h1 : cs = bs) : ∃ v hp', t.run = some (.ret v, hp') ∧ V.under 0 v = true ∧ ∀ (ρ : Ren) x, VR ρ v x → x = .bool b := by
  unfold lawPath at h
  obtain ⟨⟨cs', r⟩, e1, e2⟩ := Option.map_eq_some_iff.1 h
  simp only [Prod.mk.injEq] at e2
  obtain ⟨rfl, e3⟩ := e2
  subst h1
  have hr := path_run e1
  obtain ⟨e, hp'⟩ := r
  unfold viewB at e3
  split at e3 <;> try contradiction
  · rename_i b he
    simp only at he; subst he
    injection e3 with e3; subst e3
    exact ⟨_, hp', hr, rfl, fun ρ x h => h⟩
  · rename_i b he
    simp only at he; subst he
    injection e3 with e3; subst e3
    exact ⟨_, hp', hr, rfl, fun ρ x h => h⟩
def WtOk (k F : Int) : Prop := ∃ i : I, i.n = k ∧ i.lo ≤ k ∧ k ≤ i.hi ∧ ∃ v hp', (wtRun i F).run = some (.ret v, hp') ∧ V.under 0 v = true ∧ ∀ (ρ : Ren) x, VR ρ v x → x = .bool (waitsM k F)
theorem wt_all (k F : Int) (h0 : 0 ≤ k) (h1 : k ≤ 255) : WtOk k F := by
  by_cases e32 : k = 32
  · subst e32; exact ⟨I.lit 32, rfl, Int.le_refl _, Int.le_refl _, lawPath_val (congrFun wt32 F) rfl⟩
  by_cases e40 : k = 40
  · subst e40; exact ⟨I.lit 40, rfl, Int.le_refl _, Int.le_refl _, lawPath_val (congrFun wt40 F) rfl⟩
  by_cases e48 : k = 48
  · subst e48; exact ⟨I.lit 48, rfl, Int.le_refl _, Int.le_refl _, lawPath_val (congrFun wt48 F) rfl⟩
  by_cases e56 : k = 56
  · subst e56; exact ⟨I.lit 56, rfl, Int.le_refl _, Int.le_refl _, lawPath_val (congrFun wt56 F) rfl⟩
  by_cases e192 : k = 192
  · subst e192; exact ⟨I.lit 192, rfl, Int.le_refl _, Int.le_refl _, lawPath_val (congrFun wt192 F) rfl⟩
  by_cases e200 : k = 200
  · subst e200; exact ⟨I.lit 200, rfl, Int.le_refl _, Int.le_refl _, lawPath_val (congrFun wt200 F) rfl⟩
  by_cases e208 : k = 208
  · subst e208; exact ⟨I.lit 208, rfl, Int.le_refl _, Int.le_refl _, lawPath_val (congrFun wt208 F) rfl⟩
  by_cases e216 : k = 216
  · subst e216; exact ⟨I.lit 216, rfl, Int.le_refl _, Int.le_refl _, lawPath_val (congrFun wt216 F) rfl⟩
  by_cases e194 : k = 194
  · subst e194; exact ⟨I.lit 194, rfl, Int.le_refl _, Int.le_refl _, lawPath_val (congrFun wt194 F) rfl⟩
  by_cases e202 : k = 202
  · subst e202; exact ⟨I.lit 202, rfl, Int.le_refl _, Int.le_refl _, lawPath_val (congrFun wt202 F) rfl⟩
  by_cases e210 : k = 210
  · subst e210; exact ⟨I.lit 210, rfl, Int.le_refl _, Int.le_refl _, lawPath_val (congrFun wt210 F) rfl⟩
  by_cases e218 : k = 218
  · subst e218; exact ⟨I.lit 218, rfl, Int.le_refl _, Int.le_refl _, lawPath_val (congrFun wt218 F) rfl⟩
  by_cases e196 : k = 196
  · subst e196; exact ⟨I.lit 196, rfl, Int.le_refl _, Int.le_refl _, lawPath_val (congrFun wt196 F) rfl⟩
  by_cases e204 : k = 204
  · subst e204; exact ⟨I.lit 204, rfl, Int.le_refl _, Int.le_refl _, lawPath_val (congrFun wt204 F) rfl⟩
  by_cases e212 : k = 212
  · subst e212; exact ⟨I.lit 212, rfl, Int.le_refl _, Int.le_refl _, lawPath_val (congrFun wt212 F) rfl⟩
  by_cases e220 : k = 220
  · subst e220; exact ⟨I.lit 220, rfl, Int.le_refl _, Int.le_refl _, lawPath_val (congrFun wt220 F) rfl⟩
  refine ⟨⟨k, 0, 255⟩, rfl, h0, h1, ?_⟩
  have f : ∀ j : Int, k ≠ j → (k == j) = false := fun j h => by simpa using h
  obtain ⟨v, hp', r1, r2, r3⟩ := lawPath_val (congrFun (congrFun wt_none k) F) (by simp only [wk, List.map_cons, List.map_nil, f _ e32, f _ e40, f _ e48, f _ e56, f _ e192, f _ e200, f _ e208, f _ e216, f _ e194, f _ e202, f _ e210, f _ e218, f _ e196, f _ e204, f _ e212, f _ e220])
  refine ⟨v, hp', r1, r2, fun ρ x hx => ?_⟩
  rw [r3 ρ x hx]
  unfold waitsM condK
  simp only [f _ e32, f _ e40, f _ e48, f _ e56, f _ e192, f _ e200, f _ e208, f _ e216, f _ e194, f _ e202, f _ e210, f _ e218, f _ e196, f _ e204, f _ e212, f _ e220, cond_false]
def waitsSum : Summ := fun _ hp args => match args with
  | [.int k c, .int k' f] => match decide (k = .i64) && decide (k' = .i64) && ile 0 c.lo && ile c.hi 255 && ile 0 f.lo && ile f.hi 255 with
    | true => .ret (.ret (.sbool (waitsM c.n f.n)), hp)
    | false => .fail
  | _ => .fail
theorem waitsSum_at : SumAt 41 waitsSum := by
  intro ro hp args r hrun w0 F ρ w l hr hl
  unfold waitsSum at hrun
  split at hrun <;> try (cases hrun; done)
  rename_i k c k' f
  split at hrun <;> try (cases hrun; done)
  rename_i hc
  simp only [Bool.and_eq_true, decide_eq_true_eq, ile_iff] at hc
  obtain ⟨⟨⟨⟨⟨rfl, rfl⟩, c1⟩, c2⟩, c3⟩, c4⟩ := hc
  injection hrun with hrun; subst hrun
  obtain ⟨x, xs, rfl, ⟨cv, rfl, hcv⟩, y, ys, rfl, ⟨fv, rfl, hfv⟩, hnil⟩ := hl
  simp only [VRs] at hnil; subst hnil
  have e1 := hcv.1
  have e2 := hcv.2
  have e3 := hfv.1
  have e4 := hfv.2
  obtain ⟨i, i1, i2, i3, v, hp', r1, r2, r3⟩ := wt_all cv fv (by omega) (by omega)
  have hvs : VRs ρ [.int .i64 i, .int .i64 ⟨fv, 0, 255⟩] [.int .i64 cv, .int .i64 fv] := ⟨_, _, rfl, ⟨cv, rfl, i1.symm, i2, i3⟩, _, _, rfl, ⟨fv, rfl, rfl, by show (0 : Int) ≤ fv; omega, by show fv ≤ (255 : Int); omega⟩, rfl⟩
  obtain ⟨g1, g2⟩ := pureCall call0OK (f := 41) (L := 1000000) r1 r2 rfl hr hvs
  refine ⟨g1, g2.mono fun e w' ⟨ρ', k1, k2, x, hx, hv⟩ => ⟨ρ', k1, k2, x, hx, ?_⟩⟩
  rw [← e1, ← e3]; exact r3 _ _ hv
/-! ### the environment -/
noncomputable def sm8 (f : Nat) : Option Summ := match Nat.beq f 40 with
  | true => some infoSum
  | false => match Nat.beq f 41 with
    | true => some waitsSum
    | false => sm6 f
theorem sm8_ok : ∀ f s, sm8 f = some s → SumAt f s := by
  intro f s h
  unfold sm8 at h
  split at h
  · rename_i e
    have e := Nat.eq_of_beq_eq_true e
    subst e
    injection h with h; subst h; exact infoSum_at
  · split at h
    · rename_i e
      have e := Nat.eq_of_beq_eq_true e
      subst e
      injection h with h; subst h; exact waitsSum_at
    · exact sm6_ok f s h
noncomputable def env8 : Env := { env0 with sm := sm8, cls := clss }
theorem env8OK : EnvOK Tryz.prog env8 := envOK_of tysOK fnsOK mixedOK
noncomputable def call8 : CallF := evF env8 10000 1000
theorem call8OK : CallOK Tryz.prog 2 call8 := evF_ok env8OK sm8_ok 10000 1000
theorem lawEnd8 {f : Nat} {l : List Value} {W : World} {av : List V} {v : V} {hp' : Hp} (hrun : (call8 ro0 f av (startHp 2 1000000)).run = some (.ret v, hp')) (hv : ∀ (ρ : Ren) x, VR ρ v x → x = .bool true)
    (hL : laidMetH Tryz.prog laidL W) (hsh : W.ShapedOpen Tryz.prog) (hl : VRs ren0 av l) : Calls Tryz.prog f ⟨l⟩ W fun e W' => e = .returned (.bool true) ∧ W.keptBut W' (fun _ => False) := by
  obtain ⟨_, g2⟩ := call8OK _ _ _ _ _ hrun _ _ _ W l (rel0 hL hsh) hl
  refine g2.mono fun e W' ⟨ρ', _, hrel, x, hx, hvr⟩ => ?_
  have := hv _ _ hvr
  subst this
  refine ⟨hx, hrel.os, hrel.output, fun i hi => ?_⟩
  have := hrel.frame i hi (fun h => h)
  rw [this]
  cases hw : W.heap[i]? with
  | none => rfl
  | some o => cases o <;> first | rfl | exact ⟨rfl, rfl, rfl, fun _ _ => rfl⟩ | exact .inr ⟨rfl, rfl⟩
end Go.Proofs.YtmlfmkebljdoiaaGreatDoor
