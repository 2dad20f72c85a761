/- Own text: CpuHidden: the first loop; memory. -/
import Derived.Test.YtmlfmkebljdoiaaGreatDoorL4
import Derived.Test.YtmlfmkebljdoiaaGreatDoorIa
import Derived.Test.YtmlfmkebljdoiaaGreatDoorL4b
namespace Go.Proofs.YtmlfmkebljdoiaaGreatDoor
open Go.Ev Go.Ev.Tr Go.Proofs
set_option maxRecDepth 1000000
/-- The packages' variables, and two rows of whole numbers of the caller's. -/
noncomputable def ro2 (sg : Nat) (ms : List Int) (tg : Nat) (ns : List Int) : RO := fun id => match Nat.beq id 3 with
  | true => some (.seg .i64 tg ns (-9223372036854775808) 9223372036854775807)
  | false => ro1 sg ms id
def lvV (tg : Nat) (l : Int) : V := .slice 3 1 ⟨(tg : Int), -1, (tg : Int)⟩ ⟨l, 0, 9223372036854775807⟩ 0 big63
/-- The second row: nil, or where it begins, its numbers, its length. -/
abbrev Ln := Option (Nat × List Int × Int)
def lnV : Ln → V
  | some q => lvV q.1 q.2.2
  | none => .nils
noncomputable def roL (sg : Nat) (ms : List Int) : Ln → RO
  | some q => ro2 sg ms q.1 q.2.1
  | none => ro1 sg ms
noncomputable def c11 : Code := bodyOf Tryz.f11
noncomputable def B11 : Code := sR (sL (sRn 9 c11))
noncomputable def LB11 : Code := lL (bL B11)
theorem B11_eq : B11 = .block 0 (.loop (C2.code LB11).erase) := by kernel_rfl
def sp11 : LSpec := { ts := [(1, .same), (2, .same), (8, .ptr 9), (9, .ptr 21), (11, i64S)], bs := [(9, .cpu 8), (21, .cpu 8)], nxt := 32, lim := 1000000 }
def ss11 : SSpec := { sp := sp11, tc := 10, k := .u8, lo := 0, hi := 255, mx := 60 }
structure R11 where
  x : Cpu
  y : Cpu
  cv : V
  lv : V
  sh : Bool
  xs : List Int
  ln : Int
  i : Int
def tm11 (s : R11) : Tr V := ((((Tr.lf.set 11 (some (vi64 s.i))).set 9 (some (.ptr 21 (I.lit 0)))).set 8 (some (.ptr 9 (I.lit 0)))).set 2 (some s.lv)).set 1 (some s.cv)
def hm11 (s : R11) : Tr Blk := (Tr.lf.set 21 (some (.cells (enc 8 s.y)))).set 9 (some (.cells (enc 8 s.x)))
def cA11 (s : R11) : St := ⟨(tm11 s).set 10 (some .nils), [], ⟨hm11 s, 32, 1000000⟩⟩
def cB11 (s : R11) : St := ⟨(tm11 s).set 10 (some (slotV ss11 s.ln)), [], ⟨(hm11 s).set 32 (some (.ints .u8 s.xs 0 255)), 33, 1000000⟩⟩
def par11 (st : St) : R11 := ⟨cpuOf (csOf (blkAt st.hp.m 9)), cpuOf (csOf (blkAt st.hp.m 21)), tmpV st.tmps 1, tmpV st.tmps 2, false, [], 0, nOf (tmpV st.tmps 11)⟩
def sh11 (s : R11) : Bool := s.sh
def cn11 (s : R11) : St := bif sh11 s then cB11 s else cA11 s
theorem hm11_keys (s : R11) (t : Nat) : (∃ u, (hm11 s).get t = some u) ↔ inKeys t sp11.bs := by
  simp only [hm11, Tr.get_set, sp11, inKeys, or_false]
  by_cases h2 : t = 9
  · simp [h2]
  · by_cases h3 : t = 21
    · simp [h3]
    · simp [h2, h3, Tr.get]
theorem cn11_canon (s : R11) : CanonS ss11 (cn11 s) := by
  unfold cn11
  cases sh11 s with
  | false => exact ⟨rfl, rfl, .inl ⟨rfl, hm11_keys s⟩⟩
  | true =>
    refine ⟨rfl, rfl, .inr ⟨rfl, fun t => ?_⟩⟩
    show (∃ u, ((hm11 s).set 32 _).get t = some u) ↔ t = 32 ∨ _
    simp only [Tr.get_set]
    by_cases e : t = 32
    · simp [e]
    · simp only [e, if_false, false_or]; exact hm11_keys s t
theorem par11_eq (st : St) (_ : okSt ss11.sp st = true) (h : tmpV st.tmps ss11.tc = .nils) : encS ss11 st = cA11 (par11 st) ∧ sh11 (par11 st) = false := by
  unfold encS
  rw [h]
  exact ⟨rfl, rfl⟩
noncomputable def rnd11 (ms : List Int) (sg : Nat) (l : Int) (i : Int) (out : Option (X × St)) (go : Int → Option (X × St)) : Option (X × St) :=
  bif decide (i < l) then (bif decide (i < 60) then
    (bif decide (0 ≤ i ∧ i < l) then (bif decide ((sg : Int) ≤ (sg : Int) + i ∧ (sg : Int) + i < (sg : Int) + (ms.length : Int)) then
      go (plainM (ms.getD ((sg : Int) + i - (sg : Int)).toNat 0)) else none) else none)
   else out) else out
noncomputable def endH (s : R11) : Option (X × St) := bif lnOk s.ln then some (X.normal, cn11 s) else none
theorem round11_A0 : (fun ms sg x y l i => roundS envH (ro1 sg ms) callH 263 ss11 (.code LB11) (cn11 ⟨x, y, mvV sg l, .nils, false, [], 0, i⟩)) =
    (fun ms sg x y l i => rnd11 ms sg l i (some (X.exit 0, cn11 ⟨x, y, mvV sg l, .nils, false, [], 0, i⟩)) (fun op => endH ⟨x, y, mvV sg l, .nils, true, [op], 1, IntKind.i64.wrap (i + 1)⟩)) := by kernel_rfl
theorem round11_A1 : (fun ms sg ns tg x y l k i => roundS envH (ro2 sg ms tg ns) callH 263 ss11 (.code LB11) (cn11 ⟨x, y, mvV sg l, lvV tg k, false, [], 0, i⟩)) =
    (fun ms sg _ tg x y l k i => rnd11 ms sg l i (some (X.exit 0, cn11 ⟨x, y, mvV sg l, lvV tg k, false, [], 0, i⟩)) (fun op => endH ⟨x, y, mvV sg l, lvV tg k, true, [op], 1, IntKind.i64.wrap (i + 1)⟩)) := by kernel_rfl
theorem round11_B0 : (fun ms sg x y l xs ln i => roundS envH (ro1 sg ms) callH 263 ss11 (.code LB11) (cn11 ⟨x, y, mvV sg l, .nils, true, xs, ln, i⟩)) =
    (fun ms sg x y l xs ln i => rnd11 ms sg l i (bif lnOk ln then some (X.exit 0, cn11 ⟨x, y, mvV sg l, .nils, true, xs, ln, i⟩) else none) (fun op => bif decide (ln = xs.length) then endH ⟨x, y, mvV sg l, .nils, true, xs ++ [op], ln + 1, IntKind.i64.wrap (i + 1)⟩ else none)) := by kernel_rfl
theorem round11_B1 : (fun ms sg ns tg x y l k xs ln i => roundS envH (ro2 sg ms tg ns) callH 263 ss11 (.code LB11) (cn11 ⟨x, y, mvV sg l, lvV tg k, true, xs, ln, i⟩)) =
    (fun ms sg _ tg x y l k xs ln i => rnd11 ms sg l i (bif lnOk ln then some (X.exit 0, cn11 ⟨x, y, mvV sg l, lvV tg k, true, xs, ln, i⟩) else none) (fun op => bif decide (ln = xs.length) then endH ⟨x, y, mvV sg l, lvV tg k, true, xs ++ [op], ln + 1, IntKind.i64.wrap (i + 1)⟩ else none)) := by kernel_rfl
/-! ### where it leads -/
def opH (ms : List Int) (i : Nat) : Int := plainM (ms.getD i 0)
def codeN (ms : List Int) (n : Nat) : List Int := (List.range n).map (opH ms)
theorem codeN_len (ms : List Int) (n : Nat) : (codeN ms n).length = n := by simp [codeN]
theorem codeN_succ (ms : List Int) (n : Nat) : codeN ms (n + 1) = codeN ms n ++ [opH ms n] := by simp [codeN, List.range_succ]
def mkH (x y : Cpu) (cv lv : V) (ms : List Int) (i : Nat) : R11 := ⟨x, y, cv, lv, !(Nat.beq i 0), codeN ms i, i, i⟩
def nx11 (ms : List Int) (s : R11) : R11 := mkH s.x s.y s.cv s.lv ms (cntM (lenOf4 s.cv))
def P11 (sg : Nat) (ms : List Int) (L : Ln) (s : R11) : Prop := ∃ x y l, s = mkH x y (mvV sg l) (lnV L) ms 0 ∧ 0 ≤ l ∧ l ≤ ms.length
open Classical in
noncomputable def fin11 (sg : Nat) (ms : List Int) (L : Ln) (s : R11) : Bool := decide (P11 sg ms L s)
def On11 (sg : Nat) (ms : List Int) (L : Ln) (s r : R11) : Prop := ∃ x y l, ∃ i : Nat, s = mkH x y (mvV sg l) (lnV L) ms i ∧ i ≤ cntM l ∧ 0 ≤ l ∧ l ≤ ms.length ∧ r = mkH x y (mvV sg l) (lnV L) ms (cntM l)
theorem rnd11_go {ms : List Int} {sg : Nat} {l : Int} {out : Option (X × St)} {go : Int → Option (X × St)} {i : Nat} (h1 : i < cntM l) (h3 : l ≤ ms.length) : rnd11 ms sg l i out go = go (opH ms i) := by
  unfold cntM at h1
  unfold rnd11
  rw [decide_eq_true (show (i : Int) < l by omega), decide_eq_true (show (i : Int) < 60 by omega), decide_eq_true (show 0 ≤ (i : Int) ∧ (i : Int) < l by omega), decide_eq_true (show (sg : Int) ≤ (sg : Int) + (i : Int) ∧ (sg : Int) + (i : Int) < (sg : Int) + (ms.length : Int) by omega), show ((sg : Int) + (i : Int) - (sg : Int)).toNat = i by omega]
  rfl
theorem rnd11_out {ms : List Int} {sg : Nat} {l i : Int} {out : Option (X × St)} {go : Int → Option (X × St)} (h : l ≤ i ∨ 60 ≤ i) : rnd11 ms sg l i out go = out := by
  unfold rnd11
  cases h1 : decide (i < l) with
  | false => rfl
  | true =>
    have h1 := of_decide_eq_true h1
    rw [decide_eq_false (show ¬ i < 60 by omega)]; rfl
theorem round11 (sg : Nat) (ms : List Int) (L : Ln) (x y : Cpu) (l : Int) (i : Nat) (hi : i ≤ 60) : roundS envH (roL sg ms L) callH 263 ss11 (.code LB11) (cn11 (mkH x y (mvV sg l) (lnV L) ms i)) =
    rnd11 ms sg l i (some (X.exit 0, cn11 (mkH x y (mvV sg l) (lnV L) ms i))) (fun op => endH ⟨x, y, mvV sg l, lnV L, true, codeN ms i ++ [op], ((i + 1 : Nat) : Int), IntKind.i64.wrap ((i : Int) + 1)⟩) := by
  have hl : lnOk (i : Int) = true := by unfold lnOk; exact decide_eq_true (by omega)
  cases i with
  | zero =>
    cases L with
    | none => exact congrFun (congrFun (congrFun (congrFun (congrFun (congrFun round11_A0 ms) sg) x) y) l) 0
    | some q => exact congrFun (congrFun (congrFun (congrFun (congrFun (congrFun (congrFun (congrFun (congrFun round11_A1 ms) sg) q.2.1) q.1) x) y) l) q.2.2) 0
  | succ n =>
    have hd : decide (((n + 1 : Nat) : Int) = ((codeN ms (n + 1)).length : Int)) = true := decide_eq_true (by rw [codeN_len])
    have e2 : ((n + 1 : Nat) : Int) + 1 = ((n + 1 + 1 : Nat) : Int) := by omega
    cases L with
    | none =>
      have h := congrFun (congrFun (congrFun (congrFun (congrFun (congrFun (congrFun (congrFun round11_B0 ms) sg) x) y) l) (codeN ms (n + 1))) ((n + 1 : Nat) : Int)) ((n + 1 : Nat) : Int)
      simp only [hl, hd, cond_true, e2] at h
      rw [e2]; exact h
    | some q =>
      have h := congrFun (congrFun (congrFun (congrFun (congrFun (congrFun (congrFun (congrFun (congrFun (congrFun (congrFun round11_B1 ms) sg) q.2.1) q.1) x) y) l) q.2.2) (codeN ms (n + 1))) ((n + 1 : Nat) : Int)) ((n + 1 : Nat) : Int)
      simp only [hl, hd, cond_true, e2] at h
      rw [e2]; exact h
theorem step11 (sg : Nat) (ms : List Int) (L : Ln) (s r : R11) (h : On11 sg ms L s r) : (∃ s', roundS envH (roL sg ms L) callH 263 ss11 (.code LB11) (cn11 s) = some (.normal, cn11 s') ∧ On11 sg ms L s' r ∧ (60 - s'.i).toNat < (60 - s.i).toNat) ∨ roundS envH (roL sg ms L) callH 263 ss11 (.code LB11) (cn11 s) = some (.exit 0, cn11 r) := by
  obtain ⟨x, y, l, i, rfl, hi, hl, hol, rfl⟩ := h
  have hc : cntM l ≤ 60 := by unfold cntM; omega
  rw [round11 sg ms L x y l i (by omega)]
  by_cases hlt : i < cntM l
  · left
    refine ⟨mkH x y (mvV sg l) (lnV L) ms (i + 1), ?_, ⟨x, y, l, i + 1, rfl, hlt, hl, hol, rfl⟩, ?_⟩
    · rw [rnd11_go hlt hol]
      unfold endH
      have h1 : lnOk ((i + 1 : Nat) : Int) = true := by unfold lnOk; exact decide_eq_true (by omega)
      have hw : IntKind.i64.wrap ((i : Int) + 1) = ((i + 1 : Nat) : Int) := by rw [wrap_small (by omega) (by omega)]; omega
      simp only [h1, cond_true]
      rw [hw, ← codeN_succ]; rfl
    · show (60 - ((i + 1 : Nat) : Int)).toNat < (60 - (i : Int)).toNat
      omega
  · right
    have e : i = cntM l := by omega
    subst e
    refine rnd11_out ?_
    unfold cntM
    omega
theorem fin11_on (sg : Nat) (ms : List Int) (L : Ln) (s : R11) (h : fin11 sg ms L s = true) : On11 sg ms L s (nx11 ms s) := by
  simp only [fin11, decide_eq_true_eq] at h
  obtain ⟨x, y, l, rfl, h2, h3⟩ := h
  exact ⟨x, y, l, 0, rfl, Nat.zero_le _, h2, h3, rfl⟩
theorem ro1_under (sg : Nat) (ms : List Int) (id : Nat) (b : Blk) (h : ro1 sg ms id = some b) : b.under 32 = true ∧ id < 3 := by
  unfold ro1 at h
  split at h
  · rename_i e
    have e := Nat.eq_of_beq_eq_true e
    injection h with h; subst h; exact ⟨rfl, by omega⟩
  · unfold ro0 at h
    split at h
    · rename_i e
      have e := Nat.eq_of_beq_eq_true e
      injection h with h; subst h; exact ⟨rfl, by omega⟩
    · split at h
      · rename_i e
        have e := Nat.eq_of_beq_eq_true e
        injection h with h; subst h; exact ⟨rfl, by omega⟩
      · cases h
theorem roL_under (sg : Nat) (ms : List Int) (L : Ln) (id : Nat) (b : Blk) (h : roL sg ms L id = some b) : b.under 32 = true ∧ id < 4 := by
  cases L with
  | none =>
    have := ro1_under sg ms id b h
    exact ⟨this.1, by omega⟩
  | some q =>
    have h : ro2 sg ms q.1 q.2.1 id = some b := h
    unfold ro2 at h
    split at h
    · rename_i e
      have e := Nat.eq_of_beq_eq_true e
      injection h with h; subst h; exact ⟨rfl, by omega⟩
    · have := ro1_under sg ms id b h
      exact ⟨this.1, by omega⟩
theorem roL_32 (sg : Nat) (ms : List Int) (L : Ln) : roL sg ms L 32 = none := by
  cases h : roL sg ms L 32 with
  | none => rfl
  | some b => have := (roL_under sg ms L 32 b h).2; omega
theorem hook11 (sg : Nat) (ms : List Int) (L : Ln) : ∀ w0 F, w0.nxt ≤ 32 → HookOK Tryz.prog envH w0 F (roL sg ms L) 263 B11 (loopSF ss11 par11 cA11 cB11 sh11 (fin11 sg ms L) (nx11 ms)) := by
  rw [B11_eq]
  exact loopSF_ok (s := ss11) envHOK callHOK (b := .code LB11) (id := 0) (fun _ _ => trivial) (by decide) (by decide) (by decide) (roL_32 sg ms L) (fun id b h => (roL_under sg ms L id b h).1) cn11_canon par11_eq (R := On11 sg ms L) (μ := fun s => (60 - s.i).toNat) (fin11_on sg ms L) (step11 sg ms L)
end Go.Proofs.YtmlfmkebljdoiaaGreatDoor

namespace Go.Proofs.YtmlfmkebljdoiaaGreatDoor
open Go.Ev Go.Ev.Tr Go.Proofs
set_option maxRecDepth 1000000
def kB217 : Blk := .cells [.int .u8 (I.lit 217)]
def sl1 (b : Nat) : V := .slice b 1 (I.lit 0) (I.lit 1) 1 1
def pcH (ln : Int) : Blk := .cells [.int .i64 (I.lit 512), slotV ss11 ln, .int .i64 (I.lit 64), sl1 33, .int .i64 (I.lit 72), sl1 34, .int .i64 (I.lit 80), sl1 35, .int .i64 (I.lit 88), sl1 36, .int .i64 (I.lit 96), sl1 37]
def vH : V := .slice 38 2 (I.lit 0) (I.lit 6) 6 6
structure RH where
  x : Cpu
  y : Cpu
  b32 : Blk
  b33 : Blk
  b34 : Blk
  b35 : Blk
  b36 : Blk
  b37 : Blk
  b38 : Blk
  m0 : Mem
  m : Mem
  v : V
  z : Int
  k : Int
def hmH (s : RH) : List (Nat × Blk) → Tr Blk
  | [] => .lf
  | (i, b) :: r => (hmH s r).set i (some b)
def tmH (row : Nat) (s : RH) : Tr V := (((Tr.lf.set 5 (some (vi64 s.k))).set 4 (some (.int .i64 ⟨s.z, 0, 0⟩))).set 3 (some (rowV row))).set 0 (some s.v)
theorem hmH_keys (s : RH) (t : Nat) : ∀ (l : List (Nat × Blk)) (bs : List (Nat × BS)), l.map (·.1) = bs.map (·.1) → ((∃ u, (hmH s l).get t = some u) ↔ inKeys t bs)
  | [], [], _ => by simp [hmH, Tr.get, inKeys]
  | [], _ :: _, h => by simp at h
  | _ :: _, [], h => by simp at h
  | (i, b) :: l, (j, c) :: bs, h => by
    simp only [List.map_cons, List.cons.injEq] at h
    obtain ⟨rfl, h⟩ := h
    have ih := hmH_keys s t l bs h
    simp only [hmH, Tr.get_set, inKeys]
    by_cases e : t = i
    · simp [e]
    · simp only [e, if_false, false_or]; exact ih
noncomputable def rndH (xs : List Int) (ln k : Int) (m : Mem) (out : Option (X × St)) (go : Mem → Int → Option (X × St)) : Option (X × St) := bif decide (k < ln) then
    (bif decide (0 ≤ k ∧ k < ln) then (bif decide (0 ≤ k ∧ k < xs.length) then (bif decide (0 ≤ adr19 k ∧ adr19 k < 65536) then
      go (put19 m (adr19 k) (xs.getD k.toNat 0)) (IntKind.i64.wrap (k + 1)) else none) else none) else none)
  else out
def nxH (s : RH) : RH := { s with m := fillF (xsOf s.b32) s.k.toNat s.m, k := ((xsOf s.b32).length : Nat) }
theorem rndH_go {xs : List Int} {k : Nat} {m : Mem} {out : Option (X × St)} {go : Mem → Int → Option (X × St)} (hlt : k < xs.length) (hx : xs.length ≤ 60) : rndH xs xs.length k m out go = go (put19 m ((512 + k : Nat) : Int) (xs.getD k 0)) ((k + 1 : Nat) : Int) := by
  have ha : adr19 (k : Int) = ((512 + k : Nat) : Int) := by
    unfold adr19
    rw [wrap_small (by omega) (by omega), Int.tmod_eq_emod_of_nonneg (by omega)]; omega
  have hw : IntKind.i64.wrap ((k : Int) + 1) = ((k + 1 : Nat) : Int) := by rw [wrap_small (by omega) (by omega)]; omega
  unfold rndH
  rw [ha, hw, decide_eq_true (show (k : Int) < xs.length by omega), decide_eq_true (show 0 ≤ (k : Int) ∧ (k : Int) < xs.length by omega), decide_eq_true (show 0 ≤ ((512 + k : Nat) : Int) ∧ ((512 + k : Nat) : Int) < 65536 by omega)]
  rfl
theorem rndH_out {xs : List Int} {k : Nat} {m : Mem} {out : Option (X × St)} {go : Mem → Int → Option (X × St)} (h : xs.length ≤ k) : rndH xs xs.length k m out go = out := by
  unfold rndH
  rw [decide_eq_false (show ¬ (k : Int) < xs.length by omega)]; rfl
theorem hook_or {E : Env} {call : CallF} {w0 : Base} {F : Nat → Prop} {ro : RO} {nt : Nat} {c : Code} {told : St → T (X × St)} {q : St → Bool} (h : HookOK Tryz.prog E w0 F ro nt c told) (hE : EnvOK Tryz.prog E := by exact envHOK) (hc : CallOK Tryz.prog E.G call := by exact callHOK) : HookOK Tryz.prog E w0 F ro nt c (fun st => match q st with
    | true => told st
    | false => evC2 E ro call nt 10000 (.code c) st) := by
  intro ρ st a w r hs hr
  cases hq : q st with
  | true => simp only [hq] at hr; exact h ρ st a w r hs hr
  | false =>
    simp only [hq] at hr
    exact evC2_sound hE hc 10000 (.code c) ρ st a w r _ trivial hs hr fun e a' w' hp => hp
/-! ### place 1 -/
def spH1 : LSpec := { ts := [(0, .same), (3, .row 39 1 65536), (4, .int .i64 0 0), (5, i64S)], bs := [(9, .cpu 8), (21, .cpu 8), (32, .same), (33, .same), (34, .same), (35, .same), (36, .same), (37, .same), (38, .same), (39, memS)], nxt := 40, lim := 1000000 }
def blH1 (s : RH) : List (Nat × Blk) := [(9, .cells (enc 8 s.x)), (21, .cells (enc 8 s.y)), (32, s.b32), (33, s.b33), (34, s.b34), (35, s.b35), (36, s.b36), (37, s.b37), (38, s.b38), (39, memB s.m)]
def cnH1 (s : RH) : St := ⟨tmH 39 s, [], ⟨hmH s (blH1 s), 40, 1000000⟩⟩
def parH1 (st : St) : RH := ⟨cpuOf (csOf (blkAt st.hp.m 9)), cpuOf (csOf (blkAt st.hp.m 21)), blkAt st.hp.m 32, blkAt st.hp.m 33, blkAt st.hp.m 34, blkAt st.hp.m 35, blkAt st.hp.m 36, blkAt st.hp.m 37, blkAt st.hp.m 38, fun _ => 0, fnOf (blkAt st.hp.m 39), tmpV st.tmps 0, nOf (tmpV st.tmps 4), nOf (tmpV st.tmps 5)⟩
theorem parH1_eq (st : St) : encSt spH1 st = cnH1 (parH1 st) := rfl
theorem cnH1_canon (s : RH) : Canon spH1 (cnH1 s) := ⟨rfl, rfl, rfl, fun t => hmH_keys s t (blH1 s) spH1.bs rfl⟩
def stH1 (x y : Cpu) (xs : List Int) (ln : Int) (m0 m : Mem) (z k : Int) : RH := ⟨x, y, .ints .u8 xs 0 255, kB217, kB217, kB217, kB217, kB217, pcH ln, fun _ => 0, m, vH, z, k⟩
theorem roundH1_ev : (fun ro x y xs ln m0 m z k => roundT envH ro callH 43 spH1 (.code LB19) (cnH1 (stH1 x y xs ln m0 m z k))) =
    (fun _ x y xs ln m0 m z k => rndH xs ln k m (some (X.exit 2, cnH1 (stH1 x y xs ln m0 m z k))) (fun m' k' => some (X.normal, cnH1 (stH1 x y xs ln m0 m' z k')))) := by kernel_rfl
def PH1 (s : RH) : Prop := ∃ x y xs m0 m z, ∃ k : Nat, s = stH1 x y xs xs.length m0 m z k ∧ k ≤ xs.length ∧ xs.length ≤ 60
open Classical in
noncomputable def finH1 (s : RH) : Option RH := if PH1 s then some (nxH s) else none
theorem finH1_nx (s r : RH) (h : finH1 s = some r) : r = nxH s := by
  unfold finH1 at h
  split at h
  · injection h with h; exact h.symm
  · cases h
theorem stepH1 (ro : RO) (s r : RH) (h : finH1 s = some r) : (∃ s', roundT envH ro callH 43 spH1 (.code LB19) (cnH1 s) = some (.normal, cnH1 s') ∧ finH1 s' = some r ∧ (100 - s'.k).toNat < (100 - s.k).toNat) ∨ roundT envH ro callH 43 spH1 (.code LB19) (cnH1 s) = some (.exit 2, cnH1 r) := by
  unfold finH1 at h
  split at h <;> try (cases h; done)
  rename_i hp
  injection h with h; subst h
  obtain ⟨x, y, xs, m0, m, z, k, rfl, hk, hx⟩ := hp
  have hev : roundT envH ro callH 43 spH1 (.code LB19) (cnH1 (stH1 x y xs xs.length m0 m z k)) = _ := congrFun (congrFun (congrFun (congrFun (congrFun (congrFun (congrFun (congrFun (congrFun roundH1_ev ro) x) y) xs) (xs.length : Int)) m0) m) z) (k : Int)
  rw [hev]
  by_cases hlt : k < xs.length
  · left
    rw [rndH_go hlt hx]
    refine ⟨_, rfl, ?_, ?_⟩
    · unfold finH1
      rw [if_pos ⟨x, y, xs, m0, _, z, k + 1, rfl, by omega, hx⟩]
      unfold nxH stH1
      simp only [xsOf, Int.toNat_natCast, fillF_step hlt]
    · show (100 - ((k + 1 : Nat) : Int)).toNat < (100 - (k : Int)).toNat
      omega
  · right
    have e : k = xs.length := by omega
    rw [rndH_out (by omega)]
    unfold nxH stH1
    simp only [xsOf, Int.toNat_natCast, fillF_end (show xs.length ≤ k by omega)]
    rw [← e]
noncomputable def tdH1 : St → T (X × St) := loopG spH1 parH1 cnH1 finH1 nxH
theorem hookH1 (ro : RO) : ∀ w0 F, HookOK Tryz.prog envH w0 F ro 43 B19 tdH1 := fun w0 F => by
  refine loopG_ok finH1_nx ?_
  rw [B19_eq]
  exact loopF_ok envHOK callHOK (b := .code LB19) (id := 2) (fun _ _ => trivial) cnH1_canon (fun st _ => parH1_eq st) (μ := fun s => (100 - s.k).toNat) (stepH1 ro) w0 F
/-- Told where it fits, else run. -/
noncomputable def orH1 (ro : RO) (st : St) : T (X × St) := match okSt spH1 st && Nat.beq st.hp.nxt spH1.nxt && Nat.beq st.hp.lim spH1.lim with
  | true => tdH1 st
  | false => evC2 envH ro callH 43 10000 (.code B19) st
theorem orH1_ok (ro : RO) : ∀ w0 F, HookOK Tryz.prog envH w0 F ro 43 B19 (orH1 ro) := fun w0 F => hook_or (hookH1 ro w0 F)
/-! ### place 2 -/
def spH2 : LSpec := { ts := [(0, .same), (3, .row 140 1 65536), (4, .int .i64 0 0), (5, i64S)], bs := [(9, .cpu 8), (21, .cpu 8), (32, .same), (33, .same), (34, .same), (35, .same), (36, .same), (37, .same), (38, .same), (39, memS), (140, memS)], nxt := 141, lim := 1000000 }
def blH2 (s : RH) : List (Nat × Blk) := [(9, .cells (enc 8 s.x)), (21, .cells (enc 8 s.y)), (32, s.b32), (33, s.b33), (34, s.b34), (35, s.b35), (36, s.b36), (37, s.b37), (38, s.b38), (39, memB s.m0), (140, memB s.m)]
def cnH2 (s : RH) : St := ⟨tmH 140 s, [], ⟨hmH s (blH2 s), 141, 1000000⟩⟩
def parH2 (st : St) : RH := ⟨cpuOf (csOf (blkAt st.hp.m 9)), cpuOf (csOf (blkAt st.hp.m 21)), blkAt st.hp.m 32, blkAt st.hp.m 33, blkAt st.hp.m 34, blkAt st.hp.m 35, blkAt st.hp.m 36, blkAt st.hp.m 37, blkAt st.hp.m 38, fnOf (blkAt st.hp.m 39), fnOf (blkAt st.hp.m 140), tmpV st.tmps 0, nOf (tmpV st.tmps 4), nOf (tmpV st.tmps 5)⟩
theorem parH2_eq (st : St) : encSt spH2 st = cnH2 (parH2 st) := rfl
theorem cnH2_canon (s : RH) : Canon spH2 (cnH2 s) := ⟨rfl, rfl, rfl, fun t => hmH_keys s t (blH2 s) spH2.bs rfl⟩
def stH2 (x y : Cpu) (xs : List Int) (ln : Int) (m0 m : Mem) (z k : Int) : RH := ⟨x, y, .ints .u8 xs 0 255, kB217, kB217, kB217, kB217, kB217, pcH ln, m0, m, vH, z, k⟩
theorem roundH2_ev : (fun ro x y xs ln m0 m z k => roundT envH ro callH 43 spH2 (.code LB19) (cnH2 (stH2 x y xs ln m0 m z k))) =
    (fun _ x y xs ln m0 m z k => rndH xs ln k m (some (X.exit 2, cnH2 (stH2 x y xs ln m0 m z k))) (fun m' k' => some (X.normal, cnH2 (stH2 x y xs ln m0 m' z k')))) := by kernel_rfl
def PH2 (s : RH) : Prop := ∃ x y xs m0 m z, ∃ k : Nat, s = stH2 x y xs xs.length m0 m z k ∧ k ≤ xs.length ∧ xs.length ≤ 60
open Classical in
noncomputable def finH2 (s : RH) : Option RH := if PH2 s then some (nxH s) else none
theorem finH2_nx (s r : RH) (h : finH2 s = some r) : r = nxH s := by
  unfold finH2 at h
  split at h
  · injection h with h; exact h.symm
  · cases h
theorem stepH2 (ro : RO) (s r : RH) (h : finH2 s = some r) : (∃ s', roundT envH ro callH 43 spH2 (.code LB19) (cnH2 s) = some (.normal, cnH2 s') ∧ finH2 s' = some r ∧ (100 - s'.k).toNat < (100 - s.k).toNat) ∨ roundT envH ro callH 43 spH2 (.code LB19) (cnH2 s) = some (.exit 2, cnH2 r) := by
  unfold finH2 at h
  split at h <;> try (cases h; done)
  rename_i hp
  injection h with h; subst h
  obtain ⟨x, y, xs, m0, m, z, k, rfl, hk, hx⟩ := hp
  have hev : roundT envH ro callH 43 spH2 (.code LB19) (cnH2 (stH2 x y xs xs.length m0 m z k)) = _ := congrFun (congrFun (congrFun (congrFun (congrFun (congrFun (congrFun (congrFun (congrFun roundH2_ev ro) x) y) xs) (xs.length : Int)) m0) m) z) (k : Int)
  rw [hev]
  by_cases hlt : k < xs.length
  · left
    rw [rndH_go hlt hx]
    refine ⟨_, rfl, ?_, ?_⟩
    · unfold finH2
      rw [if_pos ⟨x, y, xs, m0, _, z, k + 1, rfl, by omega, hx⟩]
      unfold nxH stH2
      simp only [xsOf, Int.toNat_natCast, fillF_step hlt]
    · show (100 - ((k + 1 : Nat) : Int)).toNat < (100 - (k : Int)).toNat
      omega
  · right
    have e : k = xs.length := by omega
    rw [rndH_out (by omega)]
    unfold nxH stH2
    simp only [xsOf, Int.toNat_natCast, fillF_end (show xs.length ≤ k by omega)]
    rw [← e]
noncomputable def tdH2 : St → T (X × St) := loopG spH2 parH2 cnH2 finH2 nxH
theorem hookH2 (ro : RO) : ∀ w0 F, HookOK Tryz.prog envH w0 F ro 43 B19 tdH2 := fun w0 F => by
  refine loopG_ok finH2_nx ?_
  rw [B19_eq]
  exact loopF_ok envHOK callHOK (b := .code LB19) (id := 2) (fun _ _ => trivial) cnH2_canon (fun st _ => parH2_eq st) (μ := fun s => (100 - s.k).toNat) (stepH2 ro) w0 F
/-- Told where it fits, else run. -/
noncomputable def orH2 (ro : RO) (st : St) : T (X × St) := match okSt spH2 st && Nat.beq st.hp.nxt spH2.nxt && Nat.beq st.hp.lim spH2.lim with
  | true => tdH2 st
  | false => evC2 envH ro callH 43 10000 (.code B19) st
theorem orH2_ok (ro : RO) : ∀ w0 F, HookOK Tryz.prog envH w0 F ro 43 B19 (orH2 ro) := fun w0 F => hook_or (hookH2 ro w0 F)
/-! ### memory -/
def manyH (hp : Hp) : List V → Bool
  | [.slice b _ _ _ _ _] => match hp.m.get b with
    | some (.cells (_ :: .slice _ _ _ _ _ _ :: _)) => true
    | _ => false
  | _ => false
noncomputable def memHS : Summ := fun ro hp args => match manyH hp args with
  | true => match Nat.beq hp.nxt 39 with
    | true => bodyF2 envH 10000 callH ro Tryz.f19 (c2_19 (orH1 ro)) args hp
    | false => bodyF2 envH 10000 callH ro Tryz.f19 (c2_19 (orH2 ro)) args hp
  | false => bodyF2 envH 10000 callH ro Tryz.f19 (.code c19) args hp
theorem memHS_at : SumAt 19 memHS := by
  intro ro hp args r hrun w0 F ρ w l hr hl
  refine ⟨Tryz.call19 _, ?_⟩
  unfold memHS at hrun
  split at hrun
  · split at hrun
    · exact bodyF2_sound envHOK callHOK Tryz.func19 (c2_19_eq (orH1 ro)) ⟨trivial, trivial, ⟨trivial, trivial, ⟨trivial, orH1_ok ro w0 F⟩, trivial⟩, trivial⟩ hrun hr hl
    · exact bodyF2_sound envHOK callHOK Tryz.func19 (c2_19_eq (orH2 ro)) ⟨trivial, trivial, ⟨trivial, trivial, ⟨trivial, orH2_ok ro w0 F⟩, trivial⟩, trivial⟩ hrun hr hl
  · exact bodyF2_sound envHOK callHOK Tryz.func19 c19_eq trivial hrun hr hl
noncomputable def smK (f : Nat) : Option Summ := match Nat.beq f 19 with
  | true => some memHS
  | false => smH f
theorem smK_ok : ∀ f s, smK f = some s → SumAt f s := by
  intro f s h
  unfold smK at h
  split at h
  · rename_i e
    have e := Nat.eq_of_beq_eq_true e
    subst e
    injection h with h; subst h; exact memHS_at
  · exact smH_ok f s h
noncomputable def envK : Env := { env0 with sm := smK, cls := clss }
theorem envKOK : EnvOK Tryz.prog envK := envOK_of tysOK fnsOK mixedOK
noncomputable def callK : CallF := evF envK 10000 1000
theorem callKOK : CallOK Tryz.prog 2 callK := evF_ok envKOK smK_ok 10000 1000
end Go.Proofs.YtmlfmkebljdoiaaGreatDoor

