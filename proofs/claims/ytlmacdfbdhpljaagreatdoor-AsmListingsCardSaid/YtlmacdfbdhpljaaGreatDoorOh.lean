/- Own text: numbers to the base 16, by the program and by the document. -/
import Derived.Test.YtlmacdfbdhpljaaGreatDoorLw
namespace Go.Proofs.YtlmacdfbdhpljaaGreatDoor
open Go.Ev Go.Ev.Tr Go.Proofs
set_option maxRecDepth 1000000
def strOf (r : AEnd × Hp) : Option (List (Int × Int × Int)) := match r.1 with
  | .ret (.str l) => some (l.map fun i => (i.n, i.lo, i.hi))
  | _ => none
noncomputable def hxT (f : Nat) (n hi d : Int) : T (AEnd × Hp) := callA sm1 noRO f [.int .i64 ⟨n, 0, hi⟩, .int .i64 (I.lit d)] (startHp 6 1000000)
def hexs : List Int := [48, 49, 50, 51, 52, 53, 54, 55, 56, 57, 97, 98, 99, 100, 101, 102]
def hexI (m : Int) : I := ⟨hexs.getD m.toNat 0, 48, 102⟩
def hexT (m : Int) : Int × Int × Int := (hexs.getD m.toNat 0, 48, 102)
def hex2 (n : Int) : List I := [hexI (n / 16), hexI (n % 16)]
def hex4 (n : Int) : List I := [hexI (n / 16 / 16 / 16), hexI (n / 16 / 16 % 16), hexI (n / 16 % 16), hexI (n % 16)]
def ofT3 (p : Int × Int × Int) : I := ⟨p.1, p.2.1, p.2.2⟩
theorem strRun {t : T (AEnd × Hp)} {q : List (Int × Int × Int)} (h : (t.bind fun r => T.ret (strOf r)).run = some (some q)) : ∃ hp', t.run = some (.ret (.str (q.map ofT3)), hp') := by
  obtain ⟨⟨e, hp⟩, h1, h2⟩ := T.run_bind_some h
  injection h2 with h2
  unfold strOf at h2
  simp only at h2
  split at h2 <;> try contradiction
  rename_i l
  injection h2 with h2; subst h2
  refine ⟨hp, ?_⟩
  rw [h1, List.map_map]
  have : (ofT3 ∘ fun i : I => (i.n, i.lo, i.hi)) = id := rfl
  rw [this, List.map_id]
theorem hxa2 (n : Int) : ((hxT 56 n 255 2).bind fun r => T.ret (strOf r)).run = some (some [(36, 36, 36), hexT (n / 16), hexT (n % 16)]) := by kernel_rfl
theorem hxa4 (n : Int) : ((hxT 56 n 65535 4).bind fun r => T.ret (strOf r)).run = some (some [(36, 36, 36), hexT (n / 16 / 16 / 16), hexT (n / 16 / 16 % 16), hexT (n / 16 % 16), hexT (n % 16)]) := by kernel_rfl
theorem hxb2 (n : Int) : ((hxT 94 n 255 2).bind fun r => T.ret (strOf r)).run = (bif decide (n % 16 + 1 = n % 16 + 1 ∧ n % 16 < 16) then bif decide (n / 16 + 1 = n / 16 + 1 ∧ n / 16 < 16) then some (some [hexT (n / 16), hexT (n % 16)]) else none else none) := by kernel_rfl
theorem hxb4 (n : Int) : ((hxT 94 n 65535 4).bind fun r => T.ret (strOf r)).run = (bif decide (n % 16 + 1 = n % 16 + 1 ∧ n % 16 < 16) then bif decide (n / 16 % 16 + 1 = n / 16 % 16 + 1 ∧ n / 16 % 16 < 16) then
    bif decide (n / 16 / 16 % 16 + 1 = n / 16 / 16 % 16 + 1 ∧ n / 16 / 16 % 16 < 16) then bif decide (n / 16 / 16 / 16 + 1 = n / 16 / 16 / 16 + 1 ∧ n / 16 / 16 / 16 < 16) then
    some (some [hexT (n / 16 / 16 / 16), hexT (n / 16 / 16 % 16), hexT (n / 16 % 16), hexT (n % 16)]) else none else none else none else none) := by kernel_rfl
theorem hxA2 (n : Int) : ∃ hp', (hxT 56 n 255 2).run = some (.ret (.str (I.lit 36 :: hex2 n)), hp') := strRun (hxa2 n)
theorem hxA4 (n : Int) : ∃ hp', (hxT 56 n 65535 4).run = some (.ret (.str (I.lit 36 :: hex4 n)), hp') := strRun (hxa4 n)
theorem hxB2 (n : Int) (h0 : 0 ≤ n) (h1 : n ≤ 255) : ∃ hp', (hxT 94 n 255 2).run = some (.ret (.str (hex2 n)), hp') := by
  have h := hxb2 n
  rw [decide_eq_true (show n % 16 + 1 = n % 16 + 1 ∧ n % 16 < 16 by omega), decide_eq_true (show n / 16 + 1 = n / 16 + 1 ∧ n / 16 < 16 by omega)] at h
  exact strRun h
theorem hxB4 (n : Int) (h0 : 0 ≤ n) (h1 : n ≤ 65535) : ∃ hp', (hxT 94 n 65535 4).run = some (.ret (.str (hex4 n)), hp') := by
  have h := hxb4 n
  rw [decide_eq_true (show n % 16 + 1 = n % 16 + 1 ∧ n % 16 < 16 by omega), decide_eq_true (show n / 16 % 16 + 1 = n / 16 % 16 + 1 ∧ n / 16 % 16 < 16 by omega), decide_eq_true (show n / 16 / 16 % 16 + 1 = n / 16 / 16 % 16 + 1 ∧ n / 16 / 16 % 16 < 16 by omega), decide_eq_true (show n / 16 / 16 / 16 + 1 = n / 16 / 16 / 16 + 1 ∧ n / 16 / 16 / 16 < 16 by omega)] at h
  exact strRun h
def hxSum (pre : List I) : Summ := fun _ hp args => match args with
  | [.int k i, .int k' d] => match decide (k = .i64) && decide (k' = .i64) && ieq d.lo d.hi && ile 0 i.lo with
    | true => match ieq d.lo 2 && ile i.hi 255 with
      | true => .ret (.ret (.str (pre ++ hex2 i.n)), hp)
      | false => match ieq d.lo 4 && ile i.hi 65535 with
        | true => .ret (.ret (.str (pre ++ hex4 i.n)), hp)
        | false => .fail
    | false => .fail
  | _ => .fail
theorem hx_at {f : Nat} {pre : List I} (h2 : ∀ n : Int, 0 ≤ n → n ≤ 255 → ∃ hp', (hxT f n 255 2).run = some (.ret (.str (pre ++ hex2 n)), hp')) (h4 : ∀ n : Int, 0 ≤ n → n ≤ 65535 → ∃ hp', (hxT f n 65535 4).run = some (.ret (.str (pre ++ hex4 n)), hp')) : SumAt f (hxSum pre) := by
  intro ro hp args r hr w0 F ρ w l hrel hl
  unfold hxSum at hr
  split at hr <;> try (cases hr; done)
  rename_i k i k' d
  split at hr <;> try (cases hr; done)
  rename_i hc
  simp only [Bool.and_eq_true, decide_eq_true_eq, ieq_iff, ile_iff] at hc
  obtain ⟨⟨⟨rfl, rfl⟩, c1⟩, c2⟩ := hc
  obtain ⟨x, xs, rfl, ⟨n, rfl, hn⟩, y, ys, rfl, ⟨m, rfl, hm⟩, hnil⟩ := hl
  have e : ys = [] := hnil
  subst e
  obtain ⟨e, n1, n2⟩ := hn
  subst e
  have m1 := hm.2
  split at hr
  · rename_i hd
    simp only [Bool.and_eq_true, ieq_iff, ile_iff] at hd
    injection hr with hr; subst hr
    have em : m = 2 := by omega
    subst em
    obtain ⟨hp', hrun⟩ := h2 i.n (by omega) (by omega)
    exact pureCall (callAOK sm1_ok) (args := [.int .i64 ⟨i.n, 0, 255⟩, .int .i64 (I.lit 2)]) hrun rfl rfl hrel ⟨_, _, rfl, int_VR (by omega) (by omega), _, _, rfl, lit_VR, rfl⟩
  · split at hr <;> try (cases hr; done)
    rename_i hd
    simp only [Bool.and_eq_true, ieq_iff, ile_iff] at hd
    injection hr with hr; subst hr
    have em : m = 4 := by omega
    subst em
    obtain ⟨hp', hrun⟩ := h4 i.n (by omega) (by omega)
    exact pureCall (callAOK sm1_ok) (args := [.int .i64 ⟨i.n, 0, 65535⟩, .int .i64 (I.lit 4)]) hrun rfl rfl hrel ⟨_, _, rfl, int_VR (by omega) (by omega), _, _, rfl, lit_VR, rfl⟩
theorem hxA_at : SumAt 56 (hxSum [I.lit 36]) := hx_at (fun n _ _ => hxA2 n) (fun n _ _ => hxA4 n)
theorem hxB_at : SumAt 94 (hxSum []) := hx_at (fun n a b => hxB2 n a b) (fun n a b => hxB4 n a b)
end Go.Proofs.YtlmacdfbdhpljaaGreatDoor
