/- Own text: AsmNear: what is told. -/
import Derived.Test.YtlmacdfbdhpljaaGreatDoorLo0
import Derived.Test.YtlmacdfbdhpljaaGreatDoorLo1
namespace Go.Proofs.YtlmacdfbdhpljaaGreatDoor
open Go.Ev Go.Ev.Tr Go.Proofs
set_option maxRecDepth 1000000
def linD : Summ := fun ro hp args => match digArgs orgPre args with
  | some _ => (digFn orgPre orgF).sum ro hp args
  | none => (digFn jrPre jrF).sum ro hp args
theorem linD_at : SumAt 133 linD := by
  intro ro hp args r hr
  unfold linD at hr
  split at hr
  · exact org_at _ _ _ _ hr
  · exact jr_at _ _ _ _ hr
def lookD : Summ := fun ro hp args => match args with
  | [.int k i, b] => match ieq i.lo i.hi with
    | true => tabSum lookTbl ro hp args
    | false => .br (decide (i.n = 24)) (tabSum lookTbl ro hp [.int k (I.lit 24), b]) .fail
  | _ => .fail
theorem lookD_at : SumAt 50 lookD := by
  intro ro hp args r hr w0 F ρ w l hrel hl
  unfold lookD at hr
  split at hr <;> try (cases hr; done)
  rename_i k i b
  split at hr
  · exact look_at _ _ _ _ hr _ _ _ _ _ hrel hl
  · simp only [T.run] at hr
    by_cases h : i.n = 24
    · rw [decide_eq_true h] at hr
      obtain ⟨x, xs, rfl, ⟨n, rfl, hn⟩, h2⟩ := hl
      have e := hn.1
      rw [h] at e
      subst e
      exact look_at _ _ _ _ hr _ _ _ _ _ hrel ⟨_, _, rfl, lit_VR, h2⟩
    · rw [decide_eq_false h] at hr; cases hr
noncomputable def smN (f : Nat) : Option Summ := match Nat.beq f 15 with
  | true => some (trueSum noArgs)
  | false => match Nat.beq f 17 with
    | true => some pickSum
    | false => match Nat.beq f 18 with
      | true => some decSum
      | false => match Nat.beq f 133 with
        | true => some linD
        | false => match Nat.beq f 50 with
          | true => some lookD
          | false => sm1 f
theorem smN_ok : ∀ f s, smN f = some s → SumAt f s := sm_cons (sm_cons (sm_cons (sm_cons (sm_cons sm1_ok lookD_at) linD_at) dec_at) pick_at) awake_at
noncomputable def nrT (a f : Int) : T (AEnd × Hp) := callA smN noRO 7 [i64a a, i64a f] (startHp 6 1000000)
def along {α : Type} : List Bool → T α → T α
  | [], t => t
  | b :: bs, .br _ x y => along bs (match b with
    | true => x
    | false => y)
  | _, _ => .fail
def viewB (r : AEnd × Hp) : Option Bool := match r.1 with
  | .ret (.bool b) => some b
  | .ret (.sbool b) => some b
  | _ => none
def condsA {α : Type} : List Bool → T α → List Bool
  | b :: bs, .br c x y => c :: condsA bs (match b with
    | true => x
    | false => y)
  | _, _ => []
theorem along_run {α : Type} : ∀ {bs : List Bool} {t : T α}, condsA bs t = bs → (along bs t).run = t.run
  | [], t, _ => rfl
  | b :: bs, .ret _, h => by simp [condsA] at h
  | b :: bs, .fail, h => by simp [condsA] at h
  | b :: bs, .br c x y, h => by
    simp only [condsA, List.cons.injEq] at h
    obtain ⟨rfl, h2⟩ := h
    have := along_run h2
    cases c with
    | true => exact this
    | false => exact this
theorem viewB_true {t : T (AEnd × Hp)} (h : (t.bind fun r => T.ret (viewB r)).run = some (some true)) : trueB t.run = true := by
  obtain ⟨⟨e, hp⟩, h1, h2⟩ := T.run_bind_some h
  injection h2 with h2
  rw [h1]
  unfold viewB at h2
  unfold trueB
  simp only [endOf]
  simp only at h2
  split at h2 <;> simp_all
/-! ### what the run comes to -/
def HX : List Int := [48, 49, 50, 51, 52, 53, 54, 55, 56, 57, 97, 98, 99, 100, 101, 102]
def nrX (V1 V2 : Int) : Int := IntKind.i16.wrap (IntKind.i64.wrap (V2 - IntKind.i64.wrap (IntKind.i64.wrap (V1 + 1) + 1)))
def nrBad (D : Int) (r : Bool) : Option (Option Bool) := bif decide (D < -128) then some (some r) else bif decide (127 < D) then some (some r) else some (some false)
def nrTo (P D : Int) : Int := (P + 2 + D + 65536) % 65536
def nrY (P X : Int) : Int := (P + 0 + 2 + IntKind.i8.wrap (X % 256)) % 65536
def nrHex (Y T : Int) : Bool := HX.getD (Y / 16 / 16 / 16).toNat 0 == HX.getD (T / 4096).toNat 0 && (HX.getD (Y / 16 / 16 % 16).toNat 0 == HX.getD (T / 256 % 16).toNat 0 && (HX.getD (Y / 16 % 16).toNat 0 == HX.getD (T / 16 % 16).toNat 0 && HX.getD (Y % 16).toNat 0 == HX.getD (T % 16).toNat 0))
def nearM (A1 A2 : Bool) (V1 V2 P D : Int) : Option (Option Bool) :=
  bif A1 then bif decide (V1 < -2147483648) then nrBad D false else bif decide (2147483647 < V1) then nrBad D false else bif decide (V1 < 0) then nrBad D false else bif decide (65535 < V1) then nrBad D false else
    bif A2 then bif decide (65536 < IntKind.i64.wrap (V1 + 2)) then nrBad D false else
      bif decide (V2 < -2147483648) then nrBad D false else bif decide (2147483647 < V2) then nrBad D false else bif decide (V2 < 0) then nrBad D false else bif decide (65535 < V2) then nrBad D false else
      bif decide (nrX V1 V2 < -128) then nrBad D true else bif decide (127 < nrX V1 V2) then nrBad D true else
      bif decide (D < -128) then some (some false) else bif decide (127 < D) then some (some false) else bif nrX V1 V2 % 256 == D % 256 then some (some (nrHex (nrY P (nrX V1 V2)) (nrTo P D))) else some (some false)
    else none
  else none
theorem near_law {P D : Int} (h0 : 0 ≤ P) (h1 : P ≤ 65534) (h2 : -200 ≤ D) (h3 : D ≤ 199) : nearM true true P (nrTo P D) P D = some (some true) := by
  have hT : 0 ≤ nrTo P D ∧ nrTo P D ≤ 65535 := by unfold nrTo; omega
  have hX : nrX P (nrTo P D) = D := by
    unfold nrX
    rw [wrap_id (k := .i64) (n := P + 1) (by show (-9223372036854775808 : Int) ≤ _; omega) (by show _ ≤ (9223372036854775807 : Int); omega),
      wrap_id (k := .i64) (n := P + 1 + 1) (by show (-9223372036854775808 : Int) ≤ _; omega) (by show _ ≤ (9223372036854775807 : Int); omega),
      wrap_id (k := .i64) (n := nrTo P D - (P + 1 + 1)) (by show (-9223372036854775808 : Int) ≤ _; omega) (by show _ ≤ (9223372036854775807 : Int); omega)]
    unfold IntKind.wrap nrTo
    simp only [show ((2 : Int) ^ IntKind.i16.bits) = 65536 from rfl, show ((2 : Int) ^ (IntKind.i16.bits - 1)) = 32768 from rfl, show IntKind.i16.signed = true from rfl, Bool.true_and, decide_eq_true_eq]
    split <;> omega
  have hV : IntKind.i64.wrap (P + 2) = P + 2 := wrap_id (by show (-9223372036854775808 : Int) ≤ _; omega) (by show _ ≤ (9223372036854775807 : Int); omega)
  unfold nearM
  rw [hX, hV, decide_eq_false (show ¬ P < -2147483648 by omega), decide_eq_false (show ¬ 2147483647 < P by omega), decide_eq_false (show ¬ P < 0 by omega), decide_eq_false (show ¬ 65535 < P by omega),
    decide_eq_false (show ¬ 65536 < P + 2 by omega), decide_eq_false (show ¬ nrTo P D < -2147483648 by omega), decide_eq_false (show ¬ 2147483647 < nrTo P D by omega), decide_eq_false (show ¬ nrTo P D < 0 by omega), decide_eq_false (show ¬ 65535 < nrTo P D by omega)]
  simp only [cond_true, cond_false]
  by_cases a : D < -128
  · rw [decide_eq_true a]
    simp only [nrBad, decide_eq_true a, cond_true]
  · by_cases b : 127 < D
    · rw [decide_eq_false a, decide_eq_true b]
      simp only [nrBad, decide_eq_false a, decide_eq_true b, cond_true, cond_false]
    · rw [decide_eq_false a, decide_eq_false b]
      have hY : nrY P D = nrTo P D := by
        unfold nrY nrTo
        have : IntKind.i8.wrap (D % 256) = D := by
          unfold IntKind.wrap
          simp only [show ((2 : Int) ^ IntKind.i8.bits) = 256 from rfl, show ((2 : Int) ^ (IntKind.i8.bits - 1)) = 128 from rfl, show IntKind.i8.signed = true from rfl, Bool.true_and, decide_eq_true_eq]
          split <;> omega
        rw [this]; omega
      simp only [cond_false, beq_self_eq_true, cond_true]
      rw [hY]
      generalize nrTo P D = T at hT
      unfold nrHex
      rw [show T / 16 / 16 / 16 = T / 4096 by omega, show T / 16 / 16 % 16 = T / 256 % 16 by omega]
      simp
theorem dgStep_eq {v c r : Int} (h : v * 10 + (c - 48) = r) (hr : r ≤ 1099511627776) : dgStep v c = r := by
  unfold dgStep
  rw [if_neg (by omega)]; exact h
theorem dv1 (n : Int) (h0 : 0 ≤ n) (h1 : n ≤ 9) : digVal ((dec1 n).map (·.n)) = n ∧ okDig ((dec1 n).map (·.n)) = true := by
  simp only [dec1, dgI, List.map_cons, List.map_nil, digVal, List.foldl_cons, List.foldl_nil, okDig, isDig, List.all_cons, List.all_nil, List.length_cons, List.length_nil, Bool.and_true]
  refine ⟨?_, ?_⟩
  · rw [dgStep_eq (v := 0) (c := 48 + n) (r := n) (by omega) (by omega)]
  · simp only [Bool.and_eq_true, decide_eq_true_eq]
    refine ⟨?_, by decide⟩
    omega
theorem dv2 (n : Int) (h0 : 10 ≤ n) (h1 : n ≤ 99) : digVal ((dec2 n).map (·.n)) = n ∧ okDig ((dec2 n).map (·.n)) = true := by
  simp only [dec2, dgI, List.map_cons, List.map_nil, digVal, List.foldl_cons, List.foldl_nil, okDig, isDig, List.all_cons, List.all_nil, List.length_cons, List.length_nil, Bool.and_true]
  refine ⟨?_, ?_⟩
  · rw [dgStep_eq (v := 0) (c := 48 + n / 10) (r := n / 10) (by omega) (by omega), dgStep_eq (v := n / 10) (c := 48 + n % 10) (r := n) (by omega) (by omega)]
  · simp only [Bool.and_eq_true, decide_eq_true_eq]
    refine ⟨?_, by decide⟩
    omega
theorem dv3 (n : Int) (h0 : 100 ≤ n) (h1 : n ≤ 999) : digVal ((dec3 n).map (·.n)) = n ∧ okDig ((dec3 n).map (·.n)) = true := by
  simp only [dec3, dgI, List.map_cons, List.map_nil, digVal, List.foldl_cons, List.foldl_nil, okDig, isDig, List.all_cons, List.all_nil, List.length_cons, List.length_nil, Bool.and_true]
  refine ⟨?_, ?_⟩
  · rw [dgStep_eq (v := 0) (c := 48 + n / 10 / 10) (r := n / 10 / 10) (by omega) (by omega), dgStep_eq (v := n / 10 / 10) (c := 48 + n / 10 % 10) (r := n / 10) (by omega) (by omega), dgStep_eq (v := n / 10) (c := 48 + n % 10) (r := n) (by omega) (by omega)]
  · simp only [Bool.and_eq_true, decide_eq_true_eq]
    refine ⟨?_, by decide⟩
    omega
theorem dv4 (n : Int) (h0 : 1000 ≤ n) (h1 : n ≤ 9999) : digVal ((dec4 n).map (·.n)) = n ∧ okDig ((dec4 n).map (·.n)) = true := by
  simp only [dec4, dgI, List.map_cons, List.map_nil, digVal, List.foldl_cons, List.foldl_nil, okDig, isDig, List.all_cons, List.all_nil, List.length_cons, List.length_nil, Bool.and_true]
  refine ⟨?_, ?_⟩
  · rw [dgStep_eq (v := 0) (c := 48 + n / 10 / 10 / 10) (r := n / 10 / 10 / 10) (by omega) (by omega), dgStep_eq (v := n / 10 / 10 / 10) (c := 48 + n / 10 / 10 % 10) (r := n / 10 / 10) (by omega) (by omega), dgStep_eq (v := n / 10 / 10) (c := 48 + n / 10 % 10) (r := n / 10) (by omega) (by omega), dgStep_eq (v := n / 10) (c := 48 + n % 10) (r := n) (by omega) (by omega)]
  · simp only [Bool.and_eq_true, decide_eq_true_eq]
    refine ⟨?_, by decide⟩
    omega
theorem dv5 (n : Int) (h0 : 10000 ≤ n) (h1 : n ≤ 99999) : digVal ((dec5 n).map (·.n)) = n ∧ okDig ((dec5 n).map (·.n)) = true := by
  simp only [dec5, dgI, List.map_cons, List.map_nil, digVal, List.foldl_cons, List.foldl_nil, okDig, isDig, List.all_cons, List.all_nil, List.length_cons, List.length_nil, Bool.and_true]
  refine ⟨?_, ?_⟩
  · rw [dgStep_eq (v := 0) (c := 48 + n / 10 / 10 / 10 / 10) (r := n / 10 / 10 / 10 / 10) (by omega) (by omega), dgStep_eq (v := n / 10 / 10 / 10 / 10) (c := 48 + n / 10 / 10 / 10 % 10) (r := n / 10 / 10 / 10) (by omega) (by omega), dgStep_eq (v := n / 10 / 10 / 10) (c := 48 + n / 10 / 10 % 10) (r := n / 10 / 10) (by omega) (by omega), dgStep_eq (v := n / 10 / 10) (c := 48 + n / 10 % 10) (r := n / 10) (by omega) (by omega), dgStep_eq (v := n / 10) (c := 48 + n % 10) (r := n) (by omega) (by omega)]
  · simp only [Bool.and_eq_true, decide_eq_true_eq]
    refine ⟨?_, by decide⟩
    omega
end Go.Proofs.YtlmacdfbdhpljaaGreatDoor
