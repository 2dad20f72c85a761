/- Own text: CpuHidden: the second loop. -/
import Derived.Test.YtmlfmkebljdoiaaGreatDoorIb
import Derived.Test.YtmlfmkebljdoiaaGreatDoorIa
namespace Go.Proofs.YtmlfmkebljdoiaaGreatDoor
open Go.Ev Go.Ev.Tr Go.Proofs
set_option maxRecDepth 1000000
noncomputable def BB : Code := sR (sL (sRn 15 c11))
noncomputable def LBB : Code := lL (bL BB)
theorem BB_eq : BB = .block 2 (.loop (C2.code LBB).erase) := by kernel_rfl
def spB : LSpec := { ts := [(2, .same), (8, .ptr 9), (9, .ptr 21), (10, .same), (13, .row 39 1 65536), (16, .bool), (17, i64S), (18, i64S)], bs := [(9, .cpu 8), (21, .cpu 8), (39, memS)], nxt := 241, lim := 1000000 }
structure RB where
  x : Cpu
  y : Cpu
  m : Mem
  lv : V
  cv : V
  ok : Bool
  tk : Int
  i : Int
def cnB (s : RB) : St := ⟨(((((((Tr.lf.set 18 (some (vi64 s.i))).set 17 (some (vi64 s.tk))).set 16 (some (.sbool s.ok))).set 13 (some (rowV 39))).set 10 (some s.cv)).set 9 (some (.ptr 21 (I.lit 0)))).set 8 (some (.ptr 9 (I.lit 0)))).set 2 (some s.lv), [],
  ⟨((Tr.lf.set 39 (some (memB s.m))).set 21 (some (.cells (enc 8 s.y)))).set 9 (some (.cells (enc 8 s.x))), 241, 1000000⟩⟩
def parB (st : St) : RB := ⟨cpuOf (csOf (blkAt st.hp.m 9)), cpuOf (csOf (blkAt st.hp.m 21)), fnOf (blkAt st.hp.m 39), tmpV st.tmps 2, tmpV st.tmps 10, bOf (tmpV st.tmps 16), nOf (tmpV st.tmps 17), nOf (tmpV st.tmps 18)⟩
theorem parB_eq (st : St) : encSt spB st = cnB (parB st) := rfl
theorem cnB_canon (s : RB) : Canon spB (cnB s) := ⟨rfl, rfl, rfl, fun t => by
  simp only [cnB, Tr.get_set, spB, inKeys, or_false]
  by_cases h2 : t = 9
  · simp [h2]
  · by_cases h3 : t = 21
    · simp [h3]
    · by_cases h4 : t = 39
      · simp [h4]
      · simp [h2, h3, h4, Tr.get]⟩
noncomputable def cycX (s : RB) (n : Int) : RB := { s with x := cycleFn.out s.x s.m [n], m := cycleFn.mem s.x s.m [n] }
noncomputable def cycA (s : RB) (n : Int) : Int := (tickM s.x (cycD s.x s.m) (n % 32)).2
noncomputable def nextB (s : RB) : Option (X × St) := some (X.normal, cnB { s with i := IntKind.i64.wrap (s.i + 1) })
noncomputable def outB (s : RB) : Option (X × St) := some (X.ret, cnB s)
def shB (u : Rg) : Int := IntKind.i64.wrap ((u.PC - 64).tdiv 8)
noncomputable def takeB (ln : Int) (s : RB) (a : Int) : Option (X × St) :=
  bif s.x.regs.IME then outB s else bif !(s.x.regs.SP == 59998) then outB s else
  bif decide (s.m 59998 + 256 * s.m 59999 < 512) then outB s else bif decide (512 + ln < s.m 59998 + 256 * s.m 59999) then outB s else
  bif decide (s.x.regs.PC < 64) then outB s else bif decide (96 < s.x.regs.PC) then outB s else
  bif decide (0 ≤ shB s.x.regs) then (bif !(a == IntKind.i64.wrap (1 * p2 (min (shB s.x.regs).toNat IntKind.i64.bits))) then outB s else nextB s) else none
noncomputable def cycB (ln : Int) (s : RB) (n : Int) : Option (X × St) := bif okC s.x then
    (bif !(cycA s n == 0) then takeB ln { cycX s n with tk := IntKind.i64.wrap (s.tk + 1) } (cycA s n) else nextB (cycX s n)) else none
noncomputable def atB (tg : Nat) (ns : List Int) (k i : Int) (f : Int → Option (X × St)) : Option (X × St) :=
  bif k == 0 then f 0 else bif ieq k 0 then none else
  (bif decide (0 ≤ (IntKind.i64.wrap (i.tdiv 16)).tmod k ∧ (IntKind.i64.wrap (i.tdiv 16)).tmod k < k) then
    (bif decide ((tg : Int) ≤ (tg : Int) + (IntKind.i64.wrap (i.tdiv 16)).tmod k ∧ (tg : Int) + (IntKind.i64.wrap (i.tdiv 16)).tmod k < (tg : Int) + (ns.length : Int)) then
      f (pickV (ns.getD ((tg : Int) + (IntKind.i64.wrap (i.tdiv 16)).tmod k - (tg : Int)).toNat 0) (32 : Nat)) else none) else none)
noncomputable def goB (ln : Int) (s : RB) (at_ : (Int → Option (X × St)) → Option (X × St)) : Option (X × St) :=
  bif decide (s.i < 2000) then (bif decide (s.i.tmod 16 < 8) then at_ (cycB ln s) else cycB ln s 0) else cycB ln s 0
noncomputable def roundB (ln : Int) (s : RB) (at_ : (Int → Option (X × St)) → Option (X × St)) : Option (X × St) := bif decide (s.i < 3000) then
    (bif !s.x.mid then (bif s.x.regs.PC == 512 + ln then (bif s.x.regs.SP == 60000 then some (X.exit 2, cnB s) else goB ln s at_) else goB ln s at_) else goB ln s at_)
  else some (X.exit 2, cnB s)
theorem roundB_0 : (fun sg ms x y m ln ok tk i => roundT env6 (ro1 sg ms) call6 263 spB (.code LBB) (cnB ⟨x, y, m, .nils, slotV ss11 ln, ok, tk, i⟩)) = (fun _ _ x y m ln ok tk i => roundB ln ⟨x, y, m, .nils, slotV ss11 ln, ok, tk, i⟩ (fun f => f 0)) := by kernel_rfl
theorem roundB_1 : (fun sg ms tg ns k x y m ln ok tk i => roundT env6 (ro2 sg ms tg ns) call6 263 spB (.code LBB) (cnB ⟨x, y, m, lvV tg k, slotV ss11 ln, ok, tk, i⟩)) = (fun _ _ tg ns k x y m ln ok tk i => roundB ln ⟨x, y, m, lvV tg k, slotV ss11 ln, ok, tk, i⟩ (atB tg ns k i)) := by kernel_rfl
end Go.Proofs.YtmlfmkebljdoiaaGreatDoor

namespace Go.Proofs.YtmlfmkebljdoiaaGreatDoor
open Go.Ev Go.Ev.Tr Go.Proofs
set_option maxRecDepth 1000000
/-- The lines of a cycle. -/
def linB (L : Ln) (i : Int) : Int := match L with
  | none => 0
  | some q => bif decide (i < 2000) then (bif decide (i.tmod 16 < 8) then (bif q.2.2 == 0 then 0 else pickV (q.2.1.getD ((i / 16) % q.2.2).toNat 0) (32 : Nat)) else 0) else 0
theorem linB_in (L : Ln) (i : Int) : 0 ≤ linB L i ∧ linB L i ≤ 31 := by
  unfold linB
  cases L with
  | none => exact ⟨Int.le_refl _, by show (0 : Int) ≤ 31; omega⟩
  | some q =>
    simp only
    cases decide (i < 2000) <;> cases decide (i.tmod 16 < 8) <;> cases q.2.2 == 0 <;> simp only [cond_true, cond_false] <;> try omega
    have := pickV_in (c := q.2.1.getD ((i / 16) % q.2.2).toNat 0) (n := ((32 : Nat) : Int)) (by decide)
    omega
theorem linB_late (L : Ln) {i : Int} (h : 2000 ≤ i) : linB L i = 0 := by
  unfold linB
  cases L with
  | none => rfl
  | some q => simp only; rw [decide_eq_false (by omega)]; rfl
def LnOk : Ln → Prop
  | none => True
  | some q => 0 ≤ q.2.2 ∧ q.2.2 ≤ q.2.1.length
noncomputable def atL : Ln → Int → (Int → Option (X × St)) → Option (X × St)
  | none, _ => fun f => f 0
  | some q, i => atB q.1 q.2.1 q.2.2 i
noncomputable def roundL (sg : Nat) (ms : List Int) (L : Ln) (s : RB) : Option (X × St) := roundT env6 (roL sg ms L) call6 263 spB (.code LBB) (cnB s)
theorem roundL_eq (sg : Nat) (ms : List Int) (L : Ln) (x y : Cpu) (m : Mem) (ln : Int) (ok : Bool) (tk i : Int) : roundL sg ms L ⟨x, y, m, lnV L, slotV ss11 ln, ok, tk, i⟩ = roundB ln ⟨x, y, m, lnV L, slotV ss11 ln, ok, tk, i⟩ (atL L i) := by
  cases L with
  | none => exact congrFun (congrFun (congrFun (congrFun (congrFun (congrFun (congrFun (congrFun (congrFun roundB_0 sg) ms) x) y) m) ln) ok) tk) i
  | some q => exact congrFun (congrFun (congrFun (congrFun (congrFun (congrFun (congrFun (congrFun (congrFun (congrFun (congrFun (congrFun roundB_1 sg) ms) q.1) q.2.1) q.2.2) x) y) m) ln) ok) tk) i
theorem goB_eq {L : Ln} (hL : LnOk L) {ln : Int} {s : RB} (h0 : 0 ≤ s.i) (h1 : s.i ≤ 3000) : goB ln s (atL L s.i) = cycB ln s (linB L s.i) := by
  unfold goB linB
  cases L with
  | none =>
    cases decide (s.i < 2000) <;> cases decide (s.i.tmod 16 < 8) <;> rfl
  | some q =>
    obtain ⟨tg, ns, k⟩ := q
    obtain ⟨k0, k1⟩ := hL
    simp only at k0 k1
    simp only [atL]
    cases decide (s.i < 2000) <;> cases decide (s.i.tmod 16 < 8) <;> simp only [cond_true, cond_false]
    unfold atB
    cases hk : k == 0 with
    | true => rfl
    | false =>
      have hk : k ≠ 0 := by simpa using hk
      have hi : ieq k 0 = false := ieq_f.2 hk
      have e1 : IntKind.i64.wrap (s.i.tdiv 16) = s.i / 16 := by
        rw [Int.tdiv_eq_ediv_of_nonneg h0, wrap_small (by omega) (by omega)]
      have e2 : (s.i / 16).tmod k = (s.i / 16) % k := Int.tmod_eq_emod_of_nonneg (by omega)
      have e3 := Int.emod_nonneg (s.i / 16) hk
      have e4 := Int.emod_lt_of_pos (s.i / 16) (show 0 < k by omega)
      rw [hi, e1, e2, decide_eq_true (show 0 ≤ (s.i / 16) % k ∧ (s.i / 16) % k < k from ⟨e3, e4⟩), decide_eq_true (show (tg : Int) ≤ (tg : Int) + (s.i / 16) % k ∧ (tg : Int) + (s.i / 16) % k < (tg : Int) + (ns.length : Int) by omega), show (tg : Int) + (s.i / 16) % k - (tg : Int) = (s.i / 16) % k by omega]
      rfl
/-! ### where it leads -/
def stopB (n : Nat) (s : RB) : Bool := !s.x.mid && (s.x.regs.PC == 512 + (n : Int) && s.x.regs.SP == 60000)
noncomputable def nxtB (L : Ln) (s : RB) : RB := { cycX s (linB L s.i) with tk := (bif cycA s (linB L s.i) == 0 then s.tk else s.tk + 1), i := s.i + 1 }
noncomputable def finC (n : Nat) (L : Ln) : Nat → RB → Option RB
  | 0, _ => none
  | k + 1, s => match stopB n s with
    | true => some s
    | false => finC n L k (nxtB L s)
theorem finC_succ (n : Nat) (L : Ln) (k : Nat) (s : RB) : finC n L (k + 1) s = bif stopB n s then some s else finC n L k (nxtB L s) := by
  show (match stopB n s with
    | true => some s
    | false => finC n L k (nxtB L s)) = _
  cases stopB n s <;> rfl
theorem finC_mono {n : Nat} {L : Ln} : ∀ {k : Nat} {s r : RB}, finC n L k s = some r → finC n L (k + 1) s = some r
  | 0, _, _, h => by cases h
  | k + 1, s, r, h => by
    rw [finC_succ] at h ⊢
    cases hs : stopB n s with
    | true => rw [hs] at h; exact h
    | false => rw [hs] at h; exact finC_mono h
section
variable {ops : Nat → Int} {g : Rg} {n : Nat} {L : Ln}
structure InvB (ops : Nat → Int) (g : Rg) (n : Nat) (L : Ln) (φ : Ph) (s : RB) : Prop where
  x : s.x = cPh ops g φ
  lv : s.lv = lnV L
  cv : s.cv = slotV ss11 n
  val : vPh ops n s.m φ
  mem : MemH ops n s.m
  i0 : 0 ≤ s.i
  i1 : s.i ≤ 2200
  t : s.i ≤ 2000 ∨ (TPh n φ : Int) + s.i ≤ 2200
  tk0 : 0 ≤ s.tk
  tk1 : s.tk ≤ s.i
theorem head_ph (hops : ∀ j, Pl1 (ops j) ∨ Pl2 (ops j)) (hg : GoodH g 0) (hn : n ≤ 60) {m : Mem} {φ : Ph} (hv : vPh ops n m φ) (s : RB) (hx : s.x = cPh ops g φ) : stopB n s = true ↔ φ = .run n := by
  unfold stopB
  rw [hx]
  cases φ with
  | run j =>
    have hj : j ≤ n := hv
    have hG := GH_good hops hg j (by omega)
    have e1 : (cPh ops g (.run j)).mid = false := rfl
    have e2 : (cPh ops g (.run j)).regs = GH ops g j := rfl
    rw [e1, e2, hG.pc, hG.sp]
    by_cases e : j = n
    · subst e; simp
    · have : ((512 + (j : Int)) == (512 + (n : Int))) = false := by simp; omega
      rw [this]
      simp [e]
  | mid j =>
    have hG := GH_good hops hg j (by have := hv.1; omega)
    have hz := zT hG.ime hG.st
    have hw := congrFun hv.2.w (GH ops g j)
    rw [hz] at hw
    simp only [Prod.mk.injEq] at hw
    have e1 : (cPh ops g (.mid j)).mid = true := hw.2.1
    rw [e1]; simp
  | ds j s p =>
    have hs := hv.2.1
    have e1 : (cPh ops g (.ds j s p)).mid = true := by
      have hc : s = 0 ∨ s = 1 ∨ s = 2 ∨ s = 3 ∨ s = 4 := by omega
      rcases hc with rfl | rfl | rfl | rfl | rfl <;> rfl
    rw [e1]; simp
  | hn j pc =>
    have hG := GH_good hops hg j (by have := hv.1; omega)
    have hp := hv.2.1
    have e2 : (cPh ops g (.hn j pc)).regs = hd (GH ops g j) pc := rfl
    rw [e2, hd_sp hG]
    simp
  | rt j s pc =>
    have hG := GH_good hops hg j (by have := hv.1; omega)
    have hz : z false (hd (GH ops g j) pc) = hd (GH ops g j) pc := zF rfl hG.st
    have e1 : (cPh ops g (.rt j s pc)).mid = true := by
      have hs1 := hv.2.1
      have hs2 := hv.2.2.1
      have hc : s = 1 ∨ s = 2 ∨ s = 3 := by omega
      rcases hc with rfl | rfl | rfl
      · have hw := congrFun rw1 (hd (GH ops g j) pc)
        rw [hz] at hw
        simp only [Prod.mk.injEq] at hw
        exact hw.2.1
      · have hw := congrFun (congrFun rw2 (hd (GH ops g j) pc)) (j : Int)
        rw [hz] at hw
        simp only [Prod.mk.injEq] at hw
        exact hw.2.1
      · have hw := congrFun (congrFun (congrFun rw3 (hd (GH ops g j) pc)) (j : Int)) 2
        rw [hz] at hw
        simp only [Prod.mk.injEq] at hw
        exact hw.2.1
    rw [e1]; simp
theorem round_go {sg : Nat} {ms : List Int} (hL : LnOk L) {s : RB} (hlv : s.lv = lnV L) (hcv : s.cv = slotV ss11 n) (h0 : 0 ≤ s.i) (h1 : s.i ≤ 2200) (hs : stopB n s = false) : roundL sg ms L s = cycB n s (linB L s.i) := by
  obtain ⟨x, y, m, lv, cv, ok, tk, i⟩ := s
  simp only at hlv hcv h0 h1
  subst hlv; subst hcv
  rw [roundL_eq]
  have hgo := goB_eq hL (ln := (n : Int)) (s := ⟨x, y, m, lnV L, slotV ss11 n, ok, tk, i⟩) h0 (by show i ≤ 3000; omega)
  simp only at hgo
  rw [← hgo]
  unfold roundB
  unfold stopB at hs
  simp only at hs ⊢
  rw [decide_eq_true (show i < 3000 by omega)]
  simp only [cond_true]
  cases hm : x.mid <;> cases hp : x.regs.PC == 512 + (n : Int) <;> cases hsp : x.regs.SP == 60000 <;> rw [hm, hp, hsp] at hs <;> simp at hs <;> rfl
theorem round_stop {sg : Nat} {ms : List Int} {s : RB} (hlv : s.lv = lnV L) (hcv : s.cv = slotV ss11 n) (h1 : s.i ≤ 2200) (hs : stopB n s = true) : roundL sg ms L s = some (.exit 2, cnB s) := by
  obtain ⟨x, y, m, lv, cv, ok, tk, i⟩ := s
  simp only at hlv hcv h1
  subst hlv; subst hcv
  rw [roundL_eq]
  unfold roundB
  unfold stopB at hs
  simp only [Bool.and_eq_true] at hs ⊢
  rw [decide_eq_true (show i < 3000 by omega), hs.1, hs.2.1, hs.2.2]; rfl
theorem cycB_eq (hops : ∀ j, Pl1 (ops j) ∨ Pl2 (ops j)) (hg : GoodH g 0) (hn : n ≤ 60) {φ : Ph} {s : RB} (hI : InvB ops g n L φ s) (hne : φ ≠ .run n) : cycB n s (linB L s.i) = some (.normal, cnB (nxtB L s)) ∧ ∃ φ', InvB ops g n L φ' (nxtB L s) := by
  obtain ⟨b0, b1⟩ := linB_in L s.i
  obtain ⟨l, hl⟩ : ∃ l : Nat, linB L s.i = l := ⟨(linB L s.i).toNat, by omega⟩
  have hmod : linB L s.i % 32 = (l : Int) := by omega
  obtain ⟨φ', a, hS⟩ := stepP hops hg hn hI.mem hI.val hne l (by omega)
  have ht : tickM s.x (cycD s.x s.m) (linB L s.i % 32) = (cPh ops g φ', a) := by rw [hI.x, hmod]; exact hS.tick
  have hA : cycA s (linB L s.i) = a := by unfold cycA; rw [ht]
  have hX : (cycX s (linB L s.i)).x = cPh ops g φ' := by
    show (tickM s.x (cycD s.x s.m) (linB L s.i % 32)).1 = _
    rw [ht]
  have hM : (cycX s (linB L s.i)).m = cycMem (cPh ops g φ) s.m := by
    show cycMem s.x s.m = _
    rw [hI.x]
  have hok : okC s.x = true := by rw [hI.x]; exact hS.ok
  have hi0 := hI.i0
  have hi1 := hI.i1
  have hk0 := hI.tk0
  have hk1 := hI.tk1
  have w1 : IntKind.i64.wrap (s.i + 1) = s.i + 1 := wrap_small (by omega) (by omega)
  have w2 : IntKind.i64.wrap (s.tk + 1) = s.tk + 1 := wrap_small (by omega) (by omega)
  refine ⟨?_, φ', ?_⟩
  · unfold cycB
    rw [hok, hA]
    simp only [cond_true]
    rcases hS.tk with ha | ⟨⟨j, k, hk, hj, rfl, ha⟩, hst⟩
    · rw [ha]
      have : (!((0 : Int) == 0)) = false := rfl
      rw [this]
      simp only [cond_false]
      unfold nextB nxtB
      rw [hA, ha]
      have e1 : (cycX s (linB L s.i)).i = s.i := rfl
      rw [e1, w1]; rfl
    · have hane : (a == 0) = false := by
        have h2 : ((2 ^ k : Nat) : Int) ≠ 0 := by exact_mod_cast Nat.ne_of_gt (Nat.two_pow_pos k)
        rw [ha]; simpa using h2
      rw [hane]
      simp only [Bool.not_false, cond_true]
      rw [w2]
      have hG := GH_good hops hg j (by omega)
      have hX' : (cycX s (linB L s.i)).x = ofR (hd (GH ops g j) (64 + 8 * (k : Int))) := by rw [hX]; rfl
      simp only at hst
      rw [← hM] at hst
      have hsh : shB (hd (GH ops g j) (64 + 8 * (k : Int))) = (k : Int) := by
        show IntKind.i64.wrap ((64 + 8 * (k : Int) - 64).tdiv 8) = _
        rw [Int.tdiv_eq_ediv_of_nonneg (by omega), wrap_small (by omega) (by omega)]; omega
      have hp2 : IntKind.i64.wrap (1 * p2 (min ((k : Int)).toNat IntKind.i64.bits)) = ((2 ^ k : Nat) : Int) := by
        have hc : k = 0 ∨ k = 1 ∨ k = 2 ∨ k = 3 ∨ k = 4 := by omega
        rcases hc with rfl | rfl | rfl | rfl | rfl <;> decide
      unfold takeB
      simp only
      rw [hX']
      have r1 : (ofR (hd (GH ops g j) (64 + 8 * (k : Int)))).regs = hd (GH ops g j) (64 + 8 * (k : Int)) := rfl
      rw [r1, hd_sp hG, hst.1, hst.2, hsh, hp2, ← ha]
      have r2 : (hd (GH ops g j) (64 + 8 * (k : Int))).IME = false := rfl
      have r3 : (hd (GH ops g j) (64 + 8 * (k : Int))).PC = 64 + 8 * (k : Int) := rfl
      rw [r2, r3, decide_eq_false (show ¬ ((j : Int) + 256 * 2 < 512) by omega), decide_eq_false (show ¬ (512 + (n : Int) < (j : Int) + 256 * 2) by omega), decide_eq_false (show ¬ (64 + 8 * (k : Int) < 64) by omega), decide_eq_false (show ¬ (96 < 64 + 8 * (k : Int)) by omega), decide_eq_true (show 0 ≤ (k : Int) by omega)]
      have r4 : (!(a == a)) = false := by simp
      have r5 : (!((59998 : Int) == 59998)) = false := rfl
      rw [r4, r5]
      simp only [cond_false, cond_true]
      unfold nextB nxtB
      rw [hA, hane]
      have e1 : ({ cycX s (linB L s.i) with tk := s.tk + 1 } : RB).i = s.i := rfl
      rw [e1, w1, ← hX']; rfl
  · have hT := TPh_le (ops := ops) hn φ' hS.val
    refine ⟨?_, hI.lv, hI.cv, ?_, ?_, ?_, ?_, ?_, ?_, ?_⟩
    · exact hX
    · show vPh ops n (cycX s (linB L s.i)).m φ'
      rw [hM]; exact hS.val
    · show MemH ops n (cycX s (linB L s.i)).m
      rw [hM]; exact hS.mem
    · show 0 ≤ s.i + 1; omega
    · show s.i + 1 ≤ 2200
      rcases hI.t with h | h
      · omega
      · by_cases h2 : 2000 ≤ s.i
        · have hl0 : (l : Int) = 0 := by have := linB_late L h2; omega
          have := hS.less hl0
          omega
        · omega
    · show s.i + 1 ≤ 2000 ∨ (TPh n φ' : Int) + (s.i + 1) ≤ 2200
      by_cases h2 : 2000 ≤ s.i
      · right
        have hl0 : (l : Int) = 0 := by have := linB_late L h2; omega
        have := hS.less hl0
        rcases hI.t with h | h
        · have hT2 := TPh_le (ops := ops) hn φ hI.val
          omega
        · omega
      · left; omega
    · show 0 ≤ (bif cycA s (linB L s.i) == 0 then s.tk else s.tk + 1)
      cases cycA s (linB L s.i) == 0 <;> simp only [cond_true, cond_false] <;> omega
    · show (bif cycA s (linB L s.i) == 0 then s.tk else s.tk + 1) ≤ s.i + 1
      cases cycA s (linB L s.i) == 0 <;> simp only [cond_true, cond_false] <;> omega
/-- It comes to an end. -/
theorem finC_ex (hops : ∀ j, Pl1 (ops j) ∨ Pl2 (ops j)) (hg : GoodH g 0) (hn : n ≤ 60) : ∀ (k : Nat) {φ : Ph} {s : RB}, InvB ops g n L φ s → (2201 - s.i).toNat ≤ k → ∃ r, finC n L k s = some r ∧ InvB ops g n L (.run n) r ∧ r.y = s.y ∧ r.ok = s.ok
  | 0, φ, s, hI, hk => by have := hI.i1; omega
  | k + 1, φ, s, hI, hk => by
    rw [finC_succ]
    cases hs : stopB n s with
    | true =>
      have := (head_ph hops hg hn hI.val s hI.x).1 hs
      subst this
      exact ⟨s, rfl, hI, rfl, rfl⟩
    | false =>
      have hne : φ ≠ .run n := fun e => by
        have := (head_ph hops hg hn hI.val s hI.x).2 e
        rw [hs] at this; cases this
      obtain ⟨_, φ', hI'⟩ := cycB_eq hops hg hn hI hne
      have hi : (nxtB L s).i = s.i + 1 := rfl
      obtain ⟨r, r1, r2, r3, r4⟩ := finC_ex hops hg hn k hI' (by rw [hi]; omega)
      exact ⟨r, r1, r2, r3, r4⟩
end
/-- The second loop, told. -/
def PB (ms : List Int) (g : Rg) (n : Nat) (L : Ln) (s : RB) : Prop := ∃ φ, InvB (opH ms) g n L φ s
open Classical in
noncomputable def finB (ms : List Int) (g : Rg) (n : Nat) (L : Ln) (s : RB) : Option RB := if PB ms g n L s then finC n L 2202 s else none
noncomputable def nxB (n : Nat) (L : Ln) (s : RB) : RB := (finC n L 2202 s).getD s
theorem finB_nx (ms : List Int) (g : Rg) (n : Nat) (L : Ln) (s r : RB) (h : finB ms g n L s = some r) : r = nxB n L s := by
  unfold finB at h
  split at h
  · unfold nxB; rw [h]; rfl
  · cases h
theorem stepB (sg : Nat) (ms : List Int) (g : Rg) (n : Nat) (L : Ln) (hg : GoodH g 0) (hn : n ≤ 60) (hL : LnOk L) (s r : RB) (h : finB ms g n L s = some r) : (∃ s', roundL sg ms L s = some (.normal, cnB s') ∧ finB ms g n L s' = some r ∧ (3000 - s'.i).toNat < (3000 - s.i).toNat) ∨ roundL sg ms L s = some (.exit 2, cnB r) := by
  have hops : ∀ j, Pl1 (opH ms j) ∨ Pl2 (opH ms j) := fun j => plAll _
  unfold finB at h
  split at h <;> try (cases h; done)
  rename_i hP
  obtain ⟨φ, hI⟩ := hP
  rw [show (2202 : Nat) = 2201 + 1 from rfl, finC_succ] at h
  cases hs : stopB n s with
  | true =>
    rw [hs] at h
    simp only [cond_true, Option.some.injEq] at h
    subst h
    exact .inr (round_stop hI.lv hI.cv hI.i1 hs)
  | false =>
    rw [hs] at h
    simp only [cond_false] at h
    have hne : φ ≠ .run n := fun e => by
      have := (head_ph hops hg hn hI.val s hI.x).2 e
      rw [hs] at this; cases this
    obtain ⟨e1, φ', hI'⟩ := cycB_eq hops hg hn hI hne
    have hi : (nxtB L s).i = s.i + 1 := rfl
    have := hI.i1
    refine .inl ⟨nxtB L s, ?_, ?_, by rw [hi]; omega⟩
    · rw [round_go hL hI.lv hI.cv hI.i0 hI.i1 hs]; exact e1
    · unfold finB
      rw [if_pos ⟨φ', hI'⟩]
      exact finC_mono h
noncomputable def tdB (ms : List Int) (g : Rg) (n : Nat) (L : Ln) : St → T (X × St) := loopG spB parB cnB (finB ms g n L) (nxB n L)
theorem hookB (sg : Nat) (ms : List Int) (g : Rg) (n : Nat) (L : Ln) (hg : GoodH g 0) (hn : n ≤ 60) (hL : LnOk L) : ∀ w0 F, HookOK Tryz.prog env6 w0 F (roL sg ms L) 263 BB (tdB ms g n L) := fun w0 F => by
  refine loopG_ok (finB_nx ms g n L) ?_
  rw [BB_eq]
  exact loopF_ok env6OK call6OK (b := .code LBB) (id := 2) (fun _ _ => trivial) cnB_canon (fun st _ => parB_eq st) (μ := fun s => (3000 - s.i).toNat) (stepB sg ms g n L hg hn hL) w0 F
end Go.Proofs.YtmlfmkebljdoiaaGreatDoor

