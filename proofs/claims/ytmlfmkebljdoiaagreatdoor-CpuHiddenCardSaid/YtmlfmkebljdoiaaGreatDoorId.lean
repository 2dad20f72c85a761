/- Own text: CpuHidden: the ways, the law. -/
import Derived.Test.YtmlfmkebljdoiaaGreatDoorIc
import Derived.Test.YtmlfmkebljdoiaaGreatDoorAu
namespace Go.Proofs.YtmlfmkebljdoiaaGreatDoor
open Go.Ev Go.Ev.Tr Go.Proofs
set_option maxRecDepth 1000000
noncomputable def orB (ms : List Int) (g : Rg) (n : Nat) (L : Ln) (ro : RO) (st : St) : T (X × St) := match okSt spB st && Nat.beq st.hp.nxt spB.nxt && Nat.beq st.hp.lim spB.lim with
  | true => tdB ms g n L st
  | false => evC2 envK ro callK 263 10000 (.code BB) st
noncomputable def c2_11 (sg : Nat) (ms : List Int) (L : Ln) (g : Rg) (n : Nat) : C2 := pre 9 c11 (.seq (.seq (.code (sL (sL (sRn 9 c11)))) (.hook B11 (loopSF ss11 par11 cA11 cB11 sh11 (fin11 sg ms L) (nx11 ms)))) (pre 5 (sRn 10 c11) (.seq (.seq (.code (sL (sL (sRn 15 c11)))) (.hook BB (orB ms g n L (roL sg ms L)))) (.code (sR (sRn 15 c11))))))
theorem c2_11_eq (sg : Nat) (ms : List Int) (L : Ln) (g : Rg) (n : Nat) : Tryz.f11.body = some (c2_11 sg ms L g n).erase := by kernel_rfl
def gH (r : Rg) : Rg := { bndR r with PC := 512, SP := 60000, IME := true }
noncomputable def lawH (r : Rg) (ms : List Int) (sg : Nat) (l : Int) (L : Ln) : T (AEnd × Hp) := bodyF2 envK 10000 callK (roL sg ms L) Tryz.f11 (c2_11 sg ms L (bndR (gH r)) (cntM l)) [regsA r, mvV sg l, lnV L] (startHp 4 1000000)
def eqRH (g h : Rg) : Bool := (g.A == h.A && (g.F == h.F && (g.B == h.B && (g.C == h.C && (g.D == h.D && (g.E == h.E && (g.H == h.H && (g.L == h.L))))))))
def startH (g : Rg) : List Bool := [fOk g, !(eqRH g g)]
def memX (xs : List Int) : Mem := put19 (put19 (put19 (put19 (put19 (fillF xs 0 (fun _ => 0)) 64 217) 72 217) 80 217) 88 217) 96 217
noncomputable def rH (g : Rg) (m : Mem) (n : Nat) : R20 := runsR (ofR g) m n
noncomputable def askH (g : Rg) (m : Mem) (n : Nat) : Bool := (fin20 (s20 (ofR g) m n)).isSome
def sH11 (g : Rg) (sg : Nat) (ms : List Int) (l : Int) (L : Ln) : R11 := mkH (ofR g) (ofR g) (mvV sg l) (lnV L) ms 0
noncomputable def sHB (g : Rg) (xs : List Int) (n : Nat) (L : Ln) : RB := ⟨ofR g, (rH g (memX xs) n).c, memX xs, lnV L, slotV ss11 n, true, 0, 0⟩
def sH1 (g : Rg) (xs : List Int) (n : Nat) : RH := stH1 (ofR g) (ofR g) xs n (fun _ => 0) (fun _ => 0) 0 0
def sH2 (g : Rg) (xs : List Int) (n : Nat) : RH := stH2 (ofR g) (ofR g) xs n (memX xs) (fun _ => 0) 0 0
def cmpH (s t : Rg) : List Bool := [s.A == t.A, s.F == t.F, s.B == t.B, s.C == t.C, s.D == t.D, s.E == t.E, s.H == t.H, s.L == t.L, s.SP == t.SP]
noncomputable def kH1 (sg : Nat) (ms : List Int) (l : Int) (L : Ln) (g : Rg) (n : Nat) (xs : List Int) : List Bool := startH g ++ (startH g ++ [fin11 sg ms L (sH11 g sg ms l L), !(Nat.beq n 0), (finH1 (sH1 g xs n)).isSome, (finH2 (sH2 g xs n)).isSome, askH g (memX xs) n, (finB ms g n L (sHB g xs n L)).isSome])
noncomputable def kF0 (r : RB) : List Bool := [r.ok, r.tk == 0] ++ (cmpH r.x.regs r.y.regs ++ [r.x.regs.PC == r.y.regs.PC])
noncomputable def kF1 (r : RB) : List Bool := [r.ok, r.tk == 0, r.x.regs.IME] ++ (cmpH r.x.regs r.y.regs ++ [r.x.regs.PC == r.y.regs.PC])
noncomputable def rHB (g : Rg) (xs : List Int) (n : Nat) (L : Ln) : RB := nxB n L (sHB g xs n L)
def d10 : List Bool := [true, false, true, false, true, true, true, true, true, true]
def dF0 : List Bool := d10 ++ [true, true, true, true, true, true, true, true, true, true, true, true]
def dF1 : List Bool := d10 ++ [true, false, true, true, true, true, true, true, true, true, true, true, true]
noncomputable def kH (f : RB → List Bool) (sg : Nat) (ms : List Int) (l : Int) (L : Ln) (g : Rg) (n : Nat) (xs : List Int) : List Bool := kH1 sg ms l L g n xs ++ f (rHB g xs n L)
theorem lH_00 : (fun r ms sg l => lawPath dF0 (lawH r ms sg l none)) = (fun r ms sg l => some (kH kF0 sg ms l none (bndR (gH r)) (cntM l) (codeN ms (cntM l)), some true)) := by kernel_rfl
theorem lH_01 : (fun r ms sg l => lawPath dF1 (lawH r ms sg l none)) = (fun r ms sg l => some (kH kF1 sg ms l none (bndR (gH r)) (cntM l) (codeN ms (cntM l)), some true)) := by kernel_rfl
theorem lH_10 : (fun r ms sg l tg ns k => lawPath dF0 (lawH r ms sg l (some (tg, ns, k)))) = (fun r ms sg l tg ns k => some (kH kF0 sg ms l (some (tg, ns, k)) (bndR (gH r)) (cntM l) (codeN ms (cntM l)), some true)) := by kernel_rfl
theorem lH_11 : (fun r ms sg l tg ns k => lawPath dF1 (lawH r ms sg l (some (tg, ns, k)))) = (fun r ms sg l tg ns k => some (kH kF1 sg ms l (some (tg, ns, k)) (bndR (gH r)) (cntM l) (codeN ms (cntM l)), some true)) := by kernel_rfl
end Go.Proofs.YtmlfmkebljdoiaaGreatDoor

namespace Go.Proofs.YtmlfmkebljdoiaaGreatDoor
open Go.Ev Go.Ev.Tr Go.Proofs
set_option maxRecDepth 1000000
def memA : Mem := memOf [(96, 217), (88, 217), (80, 217), (72, 217), (64, 217)]
noncomputable def kE (g : Rg) : List Bool := cmpH g (rH g memA 0).c.regs ++ [g.PC == (rH g memA 0).c.regs.PC]
noncomputable def kA1 (sg : Nat) (ms : List Int) (l : Int) (L : Ln) (g : Rg) (n : Nat) : List Bool := startH g ++ (startH g ++ ([fin11 sg ms L (sH11 g sg ms l L), !(Nat.beq n 0), askH g memA 0, !(ofR g).mid, g.PC == 512, g.SP == 60000] ++ kE g))
def dA1 : List Bool := [true, false, true, false, true, false, true, true, true, true, true, true, true, true, true, true, true, true, true, true]
theorem lA_0 : (fun r ms sg l => lawPath dA1 (lawH r ms sg l none)) = (fun r ms sg l => some (kA1 sg ms l none (bndR (gH r)) (cntM l), some true)) := by kernel_rfl
theorem lA_1 : (fun r ms sg l tg ns k => lawPath dA1 (lawH r ms sg l (some (tg, ns, k)))) = (fun r ms sg l tg ns k => some (kA1 sg ms l (some (tg, ns, k)) (bndR (gH r)) (cntM l), some true)) := by kernel_rfl
/-! ### nil -/
noncomputable def roN : Ln → RO
  | some q => fun id => match Nat.beq id 3 with
    | true => some (.seg .i64 q.1 q.2.1 (-9223372036854775808) 9223372036854775807)
    | false => ro0 id
  | none => ro0
noncomputable def lawHN (r : Rg) (L : Ln) : T (AEnd × Hp) := bodyF2 envK 10000 callK (roN L) Tryz.f11 (.code c11) [regsA r, .nils, lnV L] (startHp 4 1000000)
theorem c11_eq : Tryz.f11.body = some (C2.code c11).erase := by kernel_rfl
noncomputable def kN1 (g : Rg) : List Bool := startH g ++ (startH g ++ ([askH g memA 0] ++ kE g))
def dN1 : List Bool := [true, false, true, false, true, true, true, true, true, true, true, true, true, true, true]
theorem lN_0 : (fun r => lawPath dN1 (lawHN r none)) = (fun r => some (kN1 (bndR (gH r)), some true)) := by kernel_rfl
theorem lN_1 : (fun r tg ns k => lawPath dN1 (lawHN r (some (tg, ns, k)))) = (fun r _ _ _ => some (kN1 (bndR (gH r)), some true)) := by kernel_rfl
end Go.Proofs.YtmlfmkebljdoiaaGreatDoor

namespace Go.Proofs.YtmlfmkebljdoiaaGreatDoor
open Go.Ev Go.Ev.Tr Go.Proofs Go.ChangeShapes Go.WideShapes Go.ChangeAt Go.RowKit Go.Deep
set_option maxRecDepth 1000000
theorem goodXH (r : Rg) : GoodX (gH r) where
  inr := by
    have h := bnd_in r
    exact ⟨h.hA, h.hF, h.hB, h.hC, h.hD, h.hE, h.hH, h.hL, by show (0 : Int) ≤ 60000 ∧ (60000 : Int) ≤ 65535; omega, by show (0 : Int) ≤ 512 ∧ (512 : Int) ≤ 65535; omega, h.hSt⟩
  f16 := bnd_f16 r
  st := rfl
theorem goodHH (r : Rg) : GoodH (gH r) 0 := ⟨rfl, rfl, rfl, rfl⟩
theorem startHH (r : Rg) : startH (gH r) = [true, false] := by
  have h := goodXH r
  unfold startH
  have h1 : fOk (gH r) = true := by unfold fOk; rw [h.f16]; rfl
  have h2 : eqRH (gH r) (gH r) = true := by simp [eqRH]
  rw [h1, h2]; rfl
theorem memX_at (xs : List Int) (j : Nat) : memX xs j = if j = 96 then 217 else if j = 88 then 217 else if j = 80 then 217 else if j = 72 then 217 else if j = 64 then 217 else fillF xs 0 (fun _ => 0) j := rfl
theorem memX_ok (ms : List Int) (n : Nat) : MemH (opH ms) n (memX (codeN ms n)) := by
  refine ⟨fun j hj => ?_, rfl, rfl, rfl, rfl, rfl, fun a ha => ?_⟩
  · rw [memX_at, if_neg (by omega), if_neg (by omega), if_neg (by omega), if_neg (by omega), if_neg (by omega)]
    unfold fillF
    rw [if_pos (by rw [codeN_len]; omega), show 512 + j - 512 = j by omega, List.getD_eq_getElem?_getD]
    simp [codeN, hj]
  · rw [memX_at, if_neg (by omega), if_neg (by omega), if_neg (by omega), if_neg (by omega), if_neg (by omega)]
    unfold fillF
    rw [if_neg (by omega)]
theorem runY {ops : Nat → Int} {g : Rg} {n : Nat} {m : Mem} (hops : ∀ j, Pl1 (ops j) ∨ Pl2 (ops j)) (hg : GoodH g 0) (hn : n ≤ 60) (hm : MemH ops n m) : ∀ (k j : Nat), j + k = n → ∀ all, ∃ all', runM k (ofR (GH ops g j)) m all = some (ofR (GH ops g n), m, all')
  | 0, j, h, all => by
    have : j = n := by omega
    subst this
    exact ⟨all, rfl⟩
  | k + 1, j, h, all => by
    have hG := GH_good hops hg j (by omega)
    have hz := zT hG.ime hG.st
    have hop : m (pk16 (GH ops g j).PC) = ops j := by
      rw [hG.pc, pk16_id (by omega) (by omega), show (512 + (j : Int)).toNat = 512 + j by omega]
      exact hm.code j (by omega)
    have hins : ∃ c, instrM 7 0 (ofR (GH ops g j)) m = some (c, ofR (GH ops g (j + 1)), m) := by
      rw [first_eq, hop]
      by_cases h2 : Pl2 (ops j)
      · refine ⟨2, ?_⟩
        have e : GH ops g (j + 1) = ex2 (ops j) (GH ops g j) := by
          show exH _ _ = _
          unfold exH; rw [if_pos h2]
        have := congrFun (congrFun h2.y (GH ops g j)) m
        rw [hz] at this
        rw [e]; exact this
      · refine ⟨1, ?_⟩
        have e : GH ops g (j + 1) = ex1 (ops j) (GH ops g j) := by
          show exH _ _ = _
          unfold exH; rw [if_neg h2]
        have := congrFun (congrFun ((hops j).resolve_right h2).y (GH ops g j)) m
        rw [hz] at this
        rw [e]; exact this
    obtain ⟨c, hins⟩ := hins
    obtain ⟨all', h3⟩ := runY hops hg hn hm k (j + 1) (by omega) (IntKind.i64.wrap (all + c))
    exact ⟨all', by rw [run_step hins]; exact h3⟩
theorem cmpH_self (s : Rg) : cmpH s s = [true, true, true, true, true, true, true, true, true] := by simp [cmpH]
theorem emptyH (r : Rg) : askH (gH r) memA 0 = true ∧ (rH (gH r) memA 0).c = ofR (gH r) := by
  obtain ⟨k1, k2⟩ := runsR_of (n := 0) (by omega) (show runM 0 (ofR (gH r)) memA 0 = some (ofR (gH r), memA, 0) from rfl)
  refine ⟨k1, ?_⟩
  unfold rH; rw [k2]
theorem kE_true (r : Rg) : kE (gH r) = [true, true, true, true, true, true, true, true, true, true] := by
  unfold kE
  rw [(emptyH r).2]
  have e : (ofR (gH r)).regs = gH r := rfl
  rw [e, cmpH_self]; simp
theorem hidden_some (r : Rg) (ms : List Int) (sg : Nat) (l : Int) (L : Ln) (hl : 0 ≤ l) (hol : l ≤ ms.length) (hL : LnOk L) : ∃ v hp', (lawH r ms sg l L).run = some (.ret v, hp') ∧ ∀ (ρ : Ren) x, VR ρ v x → x = .bool true := by
  have hid := (goodXH r).id
  have hops : ∀ j, Pl1 (opH ms j) ∨ Pl2 (opH ms j) := fun j => plAll _
  have hg := goodHH r
  have hn : cntM l ≤ 60 := by unfold cntM; omega
  have hf : fin11 sg ms L (sH11 (gH r) sg ms l L) = true := by
    simp only [fin11, decide_eq_true_eq]
    exact ⟨_, _, l, rfl, hl, hol⟩
  by_cases h0 : cntM l = 0
  · have hk : kA1 sg ms l L (bndR (gH r)) (cntM l) = dA1 := by
      rw [hid]
      unfold kA1
      rw [hf, h0, startHH, (emptyH r).1, kE_true]; rfl
    cases L with
    | none => exact lawPath_run (congrFun (congrFun (congrFun (congrFun lA_0 r) ms) sg) l) hk rfl
    | some q => exact lawPath_run (congrFun (congrFun (congrFun (congrFun (congrFun (congrFun (congrFun lA_1 r) ms) sg) l) q.1) q.2.1) q.2.2) hk rfl
  · have hbeq : Nat.beq (cntM l) 0 = false := by
      cases hb : Nat.beq (cntM l) 0 with
      | false => rfl
      | true => exact absurd (Nat.eq_of_beq_eq_true hb) h0
    have hmem := memX_ok ms (cntM l)
    have hlen := codeN_len ms (cntM l)
    obtain ⟨all', hrun⟩ := runY hops hg hn hmem (cntM l) 0 (by omega) 0
    obtain ⟨k1, k2⟩ := runsR_of (n := cntM l) (by omega) hrun
    have hask : askH (gH r) (memX (codeN ms (cntM l))) (cntM l) = true := k1
    have hrc : (rH (gH r) (memX (codeN ms (cntM l))) (cntM l)).c = ofR (GH (opH ms) (gH r) (cntM l)) := congrArg R20.c k2
    have h1 : (finH1 (sH1 (gH r) (codeN ms (cntM l)) (cntM l))).isSome = true := by
      unfold finH1
      rw [if_pos ⟨_, _, codeN ms (cntM l), fun _ => 0, _, 0, 0, by unfold sH1; rw [hlen]; rfl, Nat.zero_le _, by rw [hlen]; exact hn⟩]; rfl
    have h2 : (finH2 (sH2 (gH r) (codeN ms (cntM l)) (cntM l))).isSome = true := by
      unfold finH2
      rw [if_pos ⟨_, _, codeN ms (cntM l), _, _, 0, 0, by unfold sH2; rw [hlen]; rfl, Nat.zero_le _, by rw [hlen]; exact hn⟩]; rfl
    have hI : InvB (opH ms) (gH r) (cntM l) L (.run 0) (sHB (gH r) (codeN ms (cntM l)) (cntM l) L) :=
      ⟨rfl, rfl, rfl, Nat.zero_le _, hmem, Int.le_refl _, by show (0 : Int) ≤ 2200; omega, .inl (by show (0 : Int) ≤ 2000; omega), Int.le_refl _, Int.le_refl _⟩
    obtain ⟨rr, e1, e2, e3, e4⟩ := finC_ex hops hg hn 2202 hI (by show (2201 - (0 : Int)).toNat ≤ 2202; omega)
    have hfB : finB ms (gH r) (cntM l) L (sHB (gH r) (codeN ms (cntM l)) (cntM l) L) = some rr := by
      unfold finB; rw [if_pos ⟨_, hI⟩, e1]
    have hrr : rHB (gH r) (codeN ms (cntM l)) (cntM l) L = rr := by unfold rHB nxB; rw [e1]; rfl
    have hx : rr.x.regs = GH (opH ms) (gH r) (cntM l) := by rw [e2.x]; rfl
    have hy : rr.y.regs = GH (opH ms) (gH r) (cntM l) := by
      rw [e3]
      show (rH (gH r) (memX (codeN ms (cntM l))) (cntM l)).c.regs = _
      rw [hrc]; rfl
    have hok : rr.ok = true := e4
    have hG := GH_good hops hg (cntM l) (by omega)
    have hk1 : kH1 sg ms l L (gH r) (cntM l) (codeN ms (cntM l)) = d10 := by
      unfold kH1
      rw [startHH, hf, hbeq, h1, h2, hask, hfB]; rfl
    cases htk : rr.tk == 0 with
    | true =>
      have hk : kH kF0 sg ms l L (bndR (gH r)) (cntM l) (codeN ms (cntM l)) = dF0 := by
        rw [hid]
        unfold kH kF0
        rw [hk1, hrr, hok, htk, hx, hy, cmpH_self]
        simp only [BEq.rfl]; rfl
      cases L with
      | none => exact lawPath_run (congrFun (congrFun (congrFun (congrFun lH_00 r) ms) sg) l) hk rfl
      | some q => exact lawPath_run (congrFun (congrFun (congrFun (congrFun (congrFun (congrFun (congrFun lH_10 r) ms) sg) l) q.1) q.2.1) q.2.2) hk rfl
    | false =>
      have hk : kH kF1 sg ms l L (bndR (gH r)) (cntM l) (codeN ms (cntM l)) = dF1 := by
        rw [hid]
        unfold kH kF1
        rw [hk1, hrr, hok, htk, hx, hy, cmpH_self, hG.ime]
        simp only [BEq.rfl]; rfl
      cases L with
      | none => exact lawPath_run (congrFun (congrFun (congrFun (congrFun lH_01 r) ms) sg) l) hk rfl
      | some q => exact lawPath_run (congrFun (congrFun (congrFun (congrFun (congrFun (congrFun (congrFun lH_11 r) ms) sg) l) q.1) q.2.1) q.2.2) hk rfl
theorem hidden_none (r : Rg) (L : Ln) : ∃ v hp', (lawHN r L).run = some (.ret v, hp') ∧ ∀ (ρ : Ren) x, VR ρ v x → x = .bool true := by
  have hid := (goodXH r).id
  have hk : kN1 (bndR (gH r)) = dN1 := by
    rw [hid]
    unfold kN1
    rw [startHH, (emptyH r).1, kE_true]; rfl
  cases L with
  | none => exact lawPath_run (congrFun lN_0 r) hk rfl
  | some q => exact lawPath_run (congrFun (congrFun (congrFun (congrFun lN_1 r) q.1) q.2.1) q.2.2) hk rfl
theorem ok11 (sg : Nat) (ms : List Int) (L : Ln) (r : Rg) (l : Int) (hL : LnOk L) : ∀ (w0 : Base) F, w0.nxt ≤ 32 → (c2_11 sg ms L (bndR (gH r)) (cntM l)).ok Tryz.prog envK w0 F (roL sg ms L) Tryz.f11.ntmps := fun w0 F h => by
  have hn : cntM l ≤ 60 := by unfold cntM; omega
  have hB : HookOK Tryz.prog envK w0 F (roL sg ms L) 263 BB (orB ms (bndR (gH r)) (cntM l) L (roL sg ms L)) :=
    hook_or (E := envK) (call := callK) (hookB sg ms (bndR (gH r)) (cntM l) L (by rw [(goodXH r).id]; exact goodHH r) hn hL w0 F) envKOK callKOK
  exact ⟨trivial, trivial, trivial, trivial, trivial, trivial, trivial, trivial, trivial, ⟨trivial, hook11 sg ms L w0 F h⟩, trivial, trivial, trivial, trivial, trivial, ⟨trivial, hB⟩, trivial⟩
/-! ### two rows -/
def ren4 (a b : Option (Nat × Nat)) : Ren := fun id => match id with
  | 0 => some (0, 3)
  | 1 => some (1, 8)
  | 2 => a
  | 3 => b
  | _ => none
theorem ren4_le (a b : Option (Nat × Nat)) : Ren.le ren0 (ren4 a b) := fun i x h => by
  match i with
  | 0 => exact h
  | 1 => exact h
  | i + 2 => cases h
theorem rel4 {W : World} {a b : Option (Nat × Nat)} {ro : RO} (hL : laidMetH Tryz.prog laidL W) (hsh : W.ShapedOpen Tryz.prog)
    (hro : ∀ id c, ro id = some c → ro0 id = some c ∨ ∃ B tot o, (id = 2 ∧ a = some (B, tot) ∨ id = 3 ∧ b = some (B, tot)) ∧ W.heap[B]? = some o ∧ BR (ren4 a b) tot c o) :
    Rel ⟨W, ren4 a b, 4⟩ (fun _ => False) 2 ro (ren4 a b) (startHp 4 1000000) W := by
  have h0 := rel0 hL hsh
  refine ⟨fun id c h => ?_, fun i j c d B t t' hi hj e1 e2 => .inr ⟨rfl, rfl⟩, fun id c h => (by cases h), fun id i1 i2 => ?_, fun _ _ _ => rfl, Nat.le_refl _, rfl, rfl, rfl, fun g hg => ?_, fun id x hx => .inl hx, Nat.le_refl _⟩
  · have h : ro id = some c := h
    rcases hro id c h with h1 | ⟨B, tot, o, hid, h1, h2⟩
    · obtain ⟨B1, t1, o1, e1, e2, e3, _⟩ := h0.blk id c h1
      exact ⟨B1, t1, o1, ren4_le a b _ _ e1, e2, BR.mono (ren4_le a b) _ _ e3, .inl rfl⟩
    · rcases hid with ⟨rfl, e⟩ | ⟨rfl, e⟩
      · exact ⟨B, tot, o, e, h1, h2, .inl rfl⟩
      · exact ⟨B, tot, o, e, h1, h2, .inl rfl⟩
  · have i1 : 4 ≤ id := i1
    match id, i1 with
    | id + 4, _ => rfl
  · match g, hg with
    | 0, _ => exact ⟨3, rfl⟩
    | 1, _ => exact ⟨8, rfl⟩
theorem seg_BR {W : World} {B off len cap : Nat} {zs : List Int} {row : List Value} {t : TypeId} {fz : Nat × Nat} (hR : RowI W B off len cap zs row t fz) (ρ : Ren) : BR ρ row.length (.seg .i64 off zs (-9223372036854775808) 9223372036854775807) (.cells ⟨row⟩ t fz) :=
  ⟨row, t, fz, rfl, rfl, fun i hi => by
    obtain ⟨h1, h2, h3⟩ := hR.cell i hi
    exact ⟨h1, h2, h3⟩⟩
theorem slice_VR {W : World} {B off len cap id : Nat} {zs : List Int} {row : List Value} {t : TypeId} {fz : Nat × Nat} {ρ : Ren} (hR : RowI W B off len cap zs row t fz) (ho : off ≤ row.length) (hρ : ρ id = some (B, row.length)) : VR ρ (.slice id 1 ⟨(off : Int), -1, (off : Int)⟩ ⟨(len : Int), 0, 9223372036854775807⟩ 0 big63) (.slice (some ⟨B, off, none⟩) len cap) := by
  have h1 := hR.hl
  have h2 := hR.hc
  have h3 := hR.hz
  simp only [maxLen] at h2
  refine ⟨B, row.length, off, len, cap, hρ, rfl, ⟨rfl, by show (-1 : Int) ≤ off; omega, Int.le_refl _⟩, ⟨rfl, by show (0 : Int) ≤ len; omega, by show (len : Int) ≤ 9223372036854775807; omega⟩, by show (0 : Int) ≤ cap; omega, by simp only [big63]; omega, h1, ?_⟩
  cases hz : zs with
  | nil => rw [hz] at h3; simp only [List.length_nil] at h3; omega
  | cons z zs' =>
    have hpos : 0 < zs.length := by rw [hz]; simp
    have h4 := (hR.cell (zs.length - 1) (by omega)).1
    have h5 := (List.getElem?_eq_some_iff.1 h4).1
    omega
/-- A row as an argument. -/
def ArgI (W : World) (v : Value) : Prop := v = .slice none 0 0 ∨ ∃ B off len cap zs row t fz, v = .slice (some ⟨B, off, none⟩) len cap ∧ RowI W B off len cap zs row t fz ∧ off ≤ row.length
theorem open_rowJ {H : Type} {enc : TypeId × Value → H} {W : World} {r : Reach} {base : Nat} {v : Value} {d : DataW H} {p : List MemPlace} (hv : Value.okWide Tryz.prog W r base 44 v) (h : DataW.Trod enc Tryz.prog W 0 (fun _ => true) true 44 v d p) :
    ArgI W v ∧ ∀ (W' : World) (sp' : Nat → Bool), W.keptBut W' (fun _ => False) → (∀ b, b < W.heap.size → sp' b = true) → DataW.Trod enc Tryz.prog W' 0 sp' true 44 v d p := by
  obtain ⟨h1, h2⟩ := open_rowI hv h
  refine ⟨?_, h2⟩
  rcases h1 with rfl | ⟨B, off, len, cap, zs, row, t, fz, rfl, hR⟩
  · exact .inl rfl
  · exact .inr ⟨B, off, len, cap, zs, row, t, fz, rfl, hR, row_off hv hR.hB⟩
theorem calledH {W : World} (hL : laidMetH Tryz.prog laidL W) (hsh : W.ShapedOpen Tryz.prog) (r : Rg) (hr : InW r) {v w : Value} (hv : ArgI W v) (hw : ArgI W w) :
    Calls Tryz.prog 11 #[regsV r, v, w] W fun e W' => e = .returned (.bool true) ∧ W.keptBut W' (fun _ => False) := by
  have noro : ∀ (a b : Option (Nat × Nat)) id c, ro0 id = some c → ro0 id = some c ∨ ∃ B tot o, (id = 2 ∧ a = some (B, tot) ∨ id = 3 ∧ b = some (B, tot)) ∧ W.heap[B]? = some o ∧ BR (ren4 a b) tot c o := fun a b id c h => .inl h
  rcases hv with rfl | ⟨B, off, len, cap, zs, row, t, fz, rfl, hR, ho⟩
  · rcases hw with rfl | ⟨B', off', len', cap', zs', row', t', fz', rfl, hR', ho'⟩
    · obtain ⟨v, hp', c1, c2⟩ := hidden_none r none
      exact lawEndR envKOK rfl callKOK Tryz.func11 c11_eq trivial c1 c2 (rel4 (a := none) (b := none) hL hsh (noro none none)) ⟨_, _, rfl, regsA_VR hr, _, _, rfl, rfl, _, _, rfl, rfl, rfl⟩
    · obtain ⟨v, hp', c1, c2⟩ := hidden_none r (some (off', zs', (len' : Int)))
      refine lawEndR envKOK rfl callKOK Tryz.func11 c11_eq trivial c1 c2 (rel4 (a := none) (b := some (B', row'.length)) hL hsh fun id c h => ?_) ⟨_, _, rfl, regsA_VR hr, _, _, rfl, rfl, _, _, rfl, slice_VR hR' ho' rfl, rfl⟩
      have h : (match Nat.beq id 3 with
        | true => some (Blk.seg .i64 off' zs' (-9223372036854775808) 9223372036854775807)
        | false => ro0 id) = some c := h
      split at h
      · rename_i e
        have e := Nat.eq_of_beq_eq_true e
        injection h with h; subst h
        exact .inr ⟨B', row'.length, _, .inr ⟨e, rfl⟩, hR'.hB, seg_BR hR' _⟩
      · exact .inl h
  · have hlen : 0 ≤ (len : Int) ∧ (len : Int) ≤ zs.length := by have := hR.hl; have := hR.hz; omega
    have ro1c : ∀ (b : Option (Nat × Nat)) id c, ro1 off zs id = some c → ro0 id = some c ∨ ∃ B1 tot o, (id = 2 ∧ (some (B, row.length) : Option (Nat × Nat)) = some (B1, tot) ∨ id = 3 ∧ b = some (B1, tot)) ∧ W.heap[B1]? = some o ∧ BR (ren4 (some (B, row.length)) b) tot c o := fun b id c h => by
      unfold ro1 at h
      split at h
      · rename_i e
        have e := Nat.eq_of_beq_eq_true e
        injection h with h; subst h
        exact .inr ⟨B, row.length, _, .inl ⟨e, rfl⟩, hR.hB, seg_BR hR _⟩
      · exact .inl h
    rcases hw with rfl | ⟨B', off', len', cap', zs', row', t', fz', rfl, hR', ho'⟩
    · obtain ⟨v, hp', c1, c2⟩ := hidden_some r zs off len none hlen.1 hlen.2 trivial
      exact lawEndR envKOK rfl callKOK Tryz.func11 (c2_11_eq off zs none _ _) (ok11 off zs none r len trivial _ _ (show 4 ≤ 32 by omega)) c1 c2 (rel4 (a := some (B, row.length)) (b := none) hL hsh (ro1c none)) ⟨_, _, rfl, regsA_VR hr, _, _, rfl, slice_VR hR ho rfl, _, _, rfl, rfl, rfl⟩
    · have hL' : LnOk (some (off', zs', (len' : Int))) := by
        have := hR'.hl
        have := hR'.hz
        exact ⟨by show (0 : Int) ≤ len'; omega, by show (len' : Int) ≤ zs'.length; omega⟩
      obtain ⟨v, hp', c1, c2⟩ := hidden_some r zs off len (some (off', zs', (len' : Int))) hlen.1 hlen.2 hL'
      refine lawEndR envKOK rfl callKOK Tryz.func11 (c2_11_eq off zs (some (off', zs', (len' : Int))) _ _) (ok11 off zs (some (off', zs', (len' : Int))) r len hL' _ _ (show 4 ≤ 32 by omega)) c1 c2 (rel4 (a := some (B, row.length)) (b := some (B', row'.length)) hL hsh fun id c h => ?_) ⟨_, _, rfl, regsA_VR hr, _, _, rfl, slice_VR hR ho rfl, _, _, rfl, slice_VR hR' ho' rfl, rfl⟩
      have h : ro2 off zs off' zs' id = some c := h
      unfold ro2 at h
      split at h
      · rename_i e
        have e := Nat.eq_of_beq_eq_true e
        injection h with h; subst h
        exact .inr ⟨B', row'.length, _, .inr ⟨e, rfl⟩, hR'.hB, seg_BR hR' _⟩
      · exact ro1c _ id c h
end Go.Proofs.YtmlfmkebljdoiaaGreatDoor

