/- Own text, written by a program of mine: rowOf as a table, as the kernel reckons it. -/
import Derived.Test.YtmlfmkebljdoiaaGreatDoorCc
namespace Go.Proofs.YtmlfmkebljdoiaaGreatDoor
open Go.Ev Go.Ev.Tr Go.Proofs
set_option maxRecDepth 1000000
/-- The opcodes as the program asks for them, one behind the other. -/
def rowOrder : List Nat := [0, 1, 17, 33, 49, 2, 18, 34, 50, 3, 11, 19, 27, 35, 43, 51, 59, 4, 5, 12, 13, 20, 21, 28, 29, 36, 37, 44, 45, 52, 53, 60, 61, 6, 14, 22, 30, 38, 46, 54, 62, 7, 15, 23, 31, 39, 47, 55, 63, 8, 9, 25, 41, 57, 10, 26, 42, 58, 16, 24, 32, 40, 48, 56, 118, 192, 200, 208, 216, 193, 209, 225, 241, 194, 195, 202, 210, 218, 196, 204, 205, 212, 220, 197, 213, 229, 245, 198, 206, 214, 222, 230, 238, 246, 254, 199, 207, 215, 223, 231, 239, 247, 255, 201, 203, 211, 219, 221, 227, 228, 235, 236, 237, 244, 252, 253, 217, 224, 240, 226, 242, 232, 248, 233, 234, 250, 243, 249, 251]
def viewRow (r : AEnd × Hp) : Option (Int × Nat) := match r.1 with
  | .ret (.agg [.int k i, .func (.func f) [] []]) => match decide (k = .i64) && ieq i.lo i.hi with
    | true => some (i.n, f)
    | false => none
  | _ => none
def rowChain : List Nat → Int → Option (Int × Nat)
  | [], n => bif decide (n < 128) then some (0, 110) else some (0, 111)
  | o :: r, n => bif n == (o : Nat) then some ((kindTab.getD o 0 : Nat), 83 + rowTab.getD o 0) else rowChain r n
noncomputable def rowT52 (n : Int) : T (AEnd × Hp) := call0 noRO 52 [.int .i64 ⟨n, 0, 255⟩] (startHp 2 1000000)
theorem rowEv : (fun n => ((rowT52 n).bind fun r => T.ofOpt (viewRow r)).run) = (fun n => rowChain rowOrder n) := by kernel_rfl
def rowOkN (n : Nat) : Bool := match rowChain rowOrder n with
  | some (k, f) => (k == ((kindTab.getD n 0 : Nat) : Int)) && Nat.beq f (83 + rowTab.getD n 0)
  | none => false
theorem rowChainAll : allN rowOkN 256 0 = true := by decide +kernel
theorem rowRun {n : Nat} (h : n < 256) : ∃ i hp', (rowT52 n).run = some (.ret (.agg [.int .i64 i, .func (.func (83 + rowTab.getD n 0)) [] []]), hp') ∧ i.lo = i.hi ∧ i.n = (kindTab.getD n 0 : Nat) := by
  have h1 := congrFun rowEv n
  have h2 := allN_get rowChainAll n (by omega)
  rw [Nat.zero_add] at h2
  unfold rowOkN at h2
  split at h2 <;> try (cases h2; done)
  rename_i k f he
  simp only [Bool.and_eq_true, beq_iff_eq] at h2
  obtain ⟨rfl, h3⟩ := h2
  have h3 := Nat.eq_of_beq_eq_true h3
  subst h3
  have h1 : ((rowT52 n).bind fun r => T.ofOpt (viewRow r)).run = rowChain rowOrder n := h1
  rw [he] at h1
  obtain ⟨⟨e, hp'⟩, k1, k2⟩ := T.run_bind_some h1
  rw [T.run_ofOpt] at k2
  unfold viewRow at k2
  split at k2 <;> try contradiction
  rename_i k i f he
  simp only at he; subst he
  split at k2 <;> try contradiction
  rename_i hc
  simp only [Bool.and_eq_true, decide_eq_true_eq, ieq_iff] at hc
  obtain ⟨rfl, hc⟩ := hc
  simp only [Option.some.injEq, Prod.mk.injEq] at k2
  obtain ⟨k2, rfl⟩ := k2
  exact ⟨i, hp', k1, hc, k2⟩
/-- Some numbers, of which one it is. -/
def pickT (n : Nat) (f : Nat → V) : Nat → Nat → T V
  | _, 0 => .fail
  | k, m + 1 => .br (Nat.beq n k) (.ret (f k)) (pickT n f (k + 1) m)
theorem pickT_run {n : Nat} {f : Nat → V} {v : V} : ∀ {m k : Nat}, (pickT n f k m).run = some v → v = f n
  | 0, _, h => by cases h
  | m + 1, k, h => by
    unfold pickT at h
    simp only [T.run] at h
    cases hb : Nat.beq n k with
    | true => rw [hb] at h; simp only [cond_true, Option.some.injEq] at h; rw [Nat.eq_of_beq_eq_true hb]; exact h.symm
    | false => rw [hb] at h; exact pickT_run h
def kindN (i : I) : Nat := kindTab.getD i.n.toNat 0
def clsN (i : I) : Nat := rowTab.getD i.n.toNat 0
def kindV (k : Nat) : V := .agg [litV (k : Nat), .any]
def clsV (k : Nat) : V := .agg [.any, .func (.func (83 + k)) [] []]
/-- rowOf, of which the kind, or the act, is told. -/
def rowSum (tell : I → T V) : Summ := fun _ hp args => match args with
  | [.int k i] => match decide (k = .i64) && ile 0 i.lo && ile i.hi 255 with
    | true => (tell i).bind fun v => .ret (.ret v, hp)
    | false => .fail
  | _ => .fail
def tellKind (i : I) : T V := pickT (kindN i) kindV 0 7
def tellCls (i : I) : T V := pickT (clsN i) clsV 0 29
theorem rowSum_at {tell : I → T V} (ht : ∀ i v, (tell i).run = some v → v = kindV (kindN i) ∨ v = clsV (clsN i)) : SumAt 52 (rowSum tell) := by
  intro ro hp args r hrun w0 F ρ w l hr hl
  unfold rowSum at hrun
  split at hrun <;> try (cases hrun; done)
  rename_i k i
  split at hrun <;> try (cases hrun; done)
  rename_i hc
  simp only [Bool.and_eq_true, decide_eq_true_eq, ile_iff] at hc
  obtain ⟨⟨rfl, c1⟩, c2⟩ := hc
  obtain ⟨v, h1, h2⟩ := T.run_bind_some hrun
  injection h2 with h2; subst h2
  obtain ⟨x, xs, rfl, ⟨q, rfl, hq⟩, hxs⟩ := hl
  simp only [VRs] at hxs; subst hxs
  have hq1 := hq.1
  have hq2 := hq.2
  obtain ⟨n, hn⟩ : ∃ n : Nat, q = n := ⟨q.toNat, by omega⟩
  subst hn
  have hin : i.n.toNat = n := by omega
  obtain ⟨j, hp', g1, g2, g3⟩ := rowRun (n := n) (by omega)
  have hv := ht i v h1
  unfold kindN clsN at hv
  rw [hin] at hv
  obtain ⟨f1, f2⟩ := call0OK _ _ _ _ _ g1 _ _ _ w [.int .i64 n] (Rel.start hr.glob 1000000) ⟨_, _, rfl, ⟨n, rfl, rfl, by show (0 : Int) ≤ (n : Int); omega, by show (n : Int) ≤ 255; omega⟩, rfl⟩
  refine ⟨f1, f2.mono fun e w' ⟨ρ', k1, k2, x, hx, hxv⟩ => ⟨ρ, Ren.le.refl _, hr.pure k2, x, hx, ?_⟩⟩
  obtain ⟨cl, rfl, y1, ys1, rfl, ⟨m, rfl, hm⟩, y2, ys2, rfl, ⟨ff, cc, rfl, hf1, hf2⟩, hys⟩ := hxv
  simp only [VRs] at hf1 hf2 hys
  subst hf1; subst hf2; subst hys
  rcases hv with rfl | rfl
  · refine ⟨_, rfl, _, _, rfl, ⟨m, rfl, ?_⟩, _, _, rfl, trivial, rfl⟩
    rw [hm.1, g3]; exact IR.lit _
  · exact ⟨_, rfl, _, _, rfl, trivial, _, _, rfl, ⟨_, _, rfl, rfl, rfl⟩, rfl⟩
end Go.Proofs.YtmlfmkebljdoiaaGreatDoor
