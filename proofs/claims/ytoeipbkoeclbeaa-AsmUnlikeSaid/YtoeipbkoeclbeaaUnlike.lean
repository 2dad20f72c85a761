/- Own text: AsmUnlike, run. -/
import Derived.Test.YtoeipbkoeclbeaaLoop2
import Derived.Test.YtoeipbkoeclbeaaInfo0
import Derived.Test.YtoeipbkoeclbeaaInfo1
import Derived.Test.YtoeipbkoeclbeaaInfo2
import Derived.Test.YtoeipbkoeclbeaaInfo3
namespace Go.Proofs.Ytoeipbkoeclbeaa
open Go.Ev Go.Ev.Tr Go.Proofs
set_option maxRecDepth 1000000
theorem infoAll {k : Nat} (h : k < 512) : infoOk k = true := by
  have part : ∀ j, k < j + 32 → j ≤ k → allN infoOk 32 j = true → infoOk k = true := fun j h1 h2 h3 => by
    have := allN_get h3 (k - j) (by omega)
    rwa [show j + (k - j) = k by omega] at this
  rcases Nat.lt_or_ge k 32 with h1 | h1
  · exact part 0 h1 (by omega) info0
  rcases Nat.lt_or_ge k 64 with h2 | h2
  · exact part 32 h2 h1 info1
  rcases Nat.lt_or_ge k 96 with h3 | h3
  · exact part 64 h3 h2 info2
  rcases Nat.lt_or_ge k 128 with h4 | h4
  · exact part 96 h4 h3 info3
  rcases Nat.lt_or_ge k 160 with h5 | h5
  · exact part 128 h5 h4 info4
  rcases Nat.lt_or_ge k 192 with h6 | h6
  · exact part 160 h6 h5 info5
  rcases Nat.lt_or_ge k 224 with h7 | h7
  · exact part 192 h7 h6 info6
  rcases Nat.lt_or_ge k 256 with h8 | h8
  · exact part 224 h8 h7 info7
  rcases Nat.lt_or_ge k 288 with h9 | h9
  · exact part 256 h9 h8 info8
  rcases Nat.lt_or_ge k 320 with h10 | h10
  · exact part 288 h10 h9 info9
  rcases Nat.lt_or_ge k 352 with h11 | h11
  · exact part 320 h11 h10 info10
  rcases Nat.lt_or_ge k 384 with h12 | h12
  · exact part 352 h12 h11 info11
  rcases Nat.lt_or_ge k 416 with h13 | h13
  · exact part 384 h13 h12 info12
  rcases Nat.lt_or_ge k 448 with h14 | h14
  · exact part 416 h14 h13 info13
  rcases Nat.lt_or_ge k 480 with h15 | h15
  · exact part 448 h15 h14 info14
  exact part 480 h h15 info15
/-- The number of an opcode, if it is told. -/
def numOf (i : I) (b : Bool) : Option Nat := match litI i with
  | some c => match Nat.ble 256 c with
    | true => none
    | false => match b with
      | true => some (c + 256)
      | false => some c
  | none => none
def infoTbl : List V → Option V
  | [.int .i64 i, .bool b] => match numOf i b with
    | some k => some (infoAt k)
    | none => none
  | _ => none
noncomputable def infoCall : CallF := evF env 100000 1000
theorem infoTabOK : TabOK infoCall 0 1000000000 12 infoTbl := by
  intro args v h
  unfold infoTbl at h
  split at h <;> try contradiction
  rename_i i b
  split at h <;> try contradiction
  rename_i k hk
  injection h with h; subst h
  unfold numOf at hk
  split at hk <;> try contradiction
  rename_i c hc
  split at hk <;> try contradiction
  rename_i hlt
  have hc256 : c < 256 := by
    rcases Nat.lt_or_ge c 256 with h | h
    · exact h
    · rw [Nat.ble_eq_true_of_le h] at hlt; cases hlt
  have hk2 : k < 512 ∧ k % 256 = c ∧ Nat.ble 256 k = b := by
    cases b <;> simp only [Option.some.injEq] at hk <;> subst hk
    · refine ⟨by omega, by omega, ?_⟩
      cases hb : Nat.ble 256 c
      · rfl
      · rw [hlt] at hb; cases hb
    · refine ⟨by omega, by omega, Nat.ble_eq_true_of_le (by omega)⟩
  obtain ⟨hu, hp', hrun⟩ := retIs_sound (infoAll hk2.1)
  refine ⟨[i64 (k % 256 : Nat), .bool (Nat.ble 256 k)], fun ρ l hl => ?_, rfl, hu, hp', hrun⟩
  obtain ⟨x, xs, rfl, ⟨n, rfl, hn⟩, hxs⟩ := hl
  refine ⟨_, xs, rfl, ⟨n, rfl, ?_⟩, ?_⟩
  · rw [litI_int hc hn, hk2.2.1]; exact IR.lit _
  · rw [hk2.2.2]; exact hxs
def sm1 (f : Nat) : Option Summ := match Nat.beq f 12 with
  | true => some (tabSum infoTbl)
  | false => none
noncomputable def env1 : Env := { ti := fun t => tys.get t, G := 0, fn := fun f => fns.get f, sm := sm1, cls := fun _ => .read }
theorem envOK1 : EnvOK Try.prog env1 := envOK_of tysOK fnsOK mixedOK
theorem sumOK1 : SumOK Try.prog env1 := by
  intro f s hs ro hp args r h w0 F ρ w l hr hl
  have hs' : sm1 f = some s := hs
  unfold sm1 at hs'
  split at hs' <;> try contradiction
  rename_i he
  have he := Nat.eq_of_beq_eq_true he
  subst he
  injection hs' with hs'; subst hs'
  exact tabSum_sound (evF_ok envOK (sumOK_none fun _ => rfl) 100000 1000) infoTabOK h hr hl
/-- The loop's body, its inner loop told. -/
noncomputable def cLB : C2 := .seq (.code (sL LB)) (.seq (.block 1 (.seq (.code (sL BD)) (.seq (.code (sL (sR BD)))
    (.seq (.seq (.code (sL (sL (sR (sR BD))))) (.hook B2 (hookB2 noRO))) (.code (sR (sR (sR BD))))))) ) (.code (sR (sR LB))))
theorem cLB_eq : cLB.erase = LB := by kernel_rfl
theorem cLB_ok (w0 : Base) (F : Nat → Prop) : cLB.ok Try.prog env1 w0 F noRO 47 := ⟨trivial, ⟨trivial, trivial, ⟨trivial, hookOK w0 F noRO⟩, trivial⟩, trivial⟩
/-- The texts of those opcodes among the first that are any. -/
def textsOf : List V → List V
  | [] => []
  | .tup [.agg (t :: _), .int _ e] :: r => match ieq e.lo 0 with
    | true => t :: textsOf r
    | false => textsOf r
  | _ :: r => textsOf r
def texts (i : Nat) : List V := textsOf (infoTab.take i)
def tmC (i : Nat) (t1 : V) : Tr V := ((Tr.lf.set 0 (some (.bool false))).set 1 (some t1)).set 2 (some (i64 i))
def canonOf (i : Nat) : List V → St
  | [] => ⟨tmC i .nils, [], ⟨.lf, 1, 1000000000⟩⟩
  | c :: cs => ⟨tmC i (.slice 0 1 (I.lit 0) (I.lit (c :: cs).length) (c :: cs).length big63), [], ⟨Tr.lf.set 0 (some (.vec (c :: cs))), 1, 1000000000⟩⟩
def canon (i : Nat) : St := canonOf i (texts i)
def isFalse : Option V → Bool
  | some (.bool b) => !b
  | _ => false
def isNum (n : Int) : Option V → Bool
  | some (.int k i) => decide (k = .i64) && ieq i.lo n && ieq i.hi n
  | _ => false
def matchSl (hp : Hp) (cs : List V) : V → Bool
  | .slice b es o len clo chi => match hp.m.get b with
    | some (.vec l) => match litI o with
      | some 0 => match litI len with
        | some m => Nat.beq es 1 && Nat.beq m cs.length && ieq clo m && ieq chi big63 && vsEq l cs && unders 0 cs
        | none => false
      | _ => false
    | _ => false
  | _ => false
def matchL (hp : Hp) (t1 : Option V) : List V → Bool
  | [] => match t1 with
    | some .nils => true
    | _ => false
  | c :: cs => match t1 with
    | some v => matchSl hp (c :: cs) v
    | none => false
def matches_ (st : St) (j : Nat) : Bool := match st.dfr with
  | [] => isFalse (st.tmps.get 0) && isNum j (st.tmps.get 2) && matchL st.hp (st.tmps.get 1) (texts j)
  | _ => false
def stepIs (j : Nat) : Option (X × St) → Bool
  | some r => match r.1 with
    | .normal => matches_ r.2 j
    | _ => false
  | none => false
noncomputable def stepOK (i : Nat) : Bool := stepIs (i + 1) (evC2 env1 noRO (evF env1 1000 1000) 47 1000 cLB (canon i)).run
def endIs (j : Nat) : Option (X × St) → Bool
  | some r => match r.1 with
    | .exit 0 => matches_ r.2 j
    | _ => false
  | none => false
noncomputable def endOK : Bool := endIs 512 (evC2 env1 noRO (evF env1 1000 1000) 47 1000 cLB (canon 512)).run
end Go.Proofs.Ytoeipbkoeclbeaa
