/- Own text: numbers, written by the statement's own function. -/
import Derived.Test.YtlmacdfbdhpljaaGreatDoorLw
namespace Go.Proofs.YtlmacdfbdhpljaaGreatDoor
open Go.Ev Go.Ev.Tr Go.Proofs
set_option maxRecDepth 1000000
def strOf (r : AEnd × Hp) : Option (List (Int × Int × Int)) := match r.1 with
  | .ret (.str l) => some (l.map fun i => (i.n, i.lo, i.hi))
  | _ => none
noncomputable def dcT (n lo hi : Int) : T (AEnd × Hp) := callA sm1 noRO 18 [.int .i64 ⟨n, lo, hi⟩] (startHp 6 1000000)
def digs : List Int := [48, 49, 50, 51, 52, 53, 54, 55, 56, 57]
theorem digs_at {m : Int} (h0 : 0 ≤ m) (h1 : m < 10) : digs.getD m.toNat 0 = 48 + m := by
  have : m = 0 ∨ m = 1 ∨ m = 2 ∨ m = 3 ∨ m = 4 ∨ m = 5 ∨ m = 6 ∨ m = 7 ∨ m = 8 ∨ m = 9 := by omega
  rcases this with h | h | h | h | h | h | h | h | h | h <;> subst h <;> rfl
def dgI (m : Int) : I := ⟨48 + m, 48, 57⟩
def dgT (m : Int) : Int × Int × Int := (digs.getD m.toNat 0, 48, 57)
def ofT3 (p : Int × Int × Int) : I := ⟨p.1, p.2.1, p.2.2⟩
theorem dgT_eq {m : Int} (h0 : 0 ≤ m) (h1 : m < 10) : ofT3 (dgT m) = dgI m := by
  unfold dgT ofT3 dgI
  simp only [digs_at h0 h1]
theorem strRun {t : T (AEnd × Hp)} {q : List (Int × Int × Int)} (h : (t.bind fun r => T.ret (strOf r)).run = some (some q)) : ∃ hp', t.run = some (.ret (.str (q.map ofT3)), hp') := by
  obtain ⟨⟨e, hp⟩, h1, h2⟩ := T.run_bind_some h
  injection h2 with h2
  unfold strOf at h2
  simp only at h2
  split at h2 <;> try contradiction
  rename_i l
  injection h2 with h2; subst h2
  refine ⟨hp, ?_⟩
  rw [h1, List.map_map]
  have : (ofT3 ∘ fun i : I => (i.n, i.lo, i.hi)) = id := rfl
  rw [this, List.map_id]
/-- 1 digits. -/
def dec1 (n : Int) : List I := [dgI (n)]
theorem dcr1 (n : Int) : ((dcT n 0 9).bind fun r => T.ret (strOf r)).run = (bif decide (n + 1 = n + 1 ∧ n < 10) then some (some [dgT (n)]) else none) := by kernel_rfl
theorem dc1 (n : Int) (h0 : 0 ≤ n) (h1 : n ≤ 9) : ∃ hp', (dcT n 0 9).run = some (.ret (.str (dec1 n)), hp') := by
  have h := dcr1 n
  rw [decide_eq_true (show n + 1 = n + 1 ∧ n < 10 by omega)] at h
  obtain ⟨hp', h⟩ := strRun h
  refine ⟨hp', h.trans ?_⟩
  simp only [List.map_cons, List.map_nil, dgT_eq (m := n) (by omega) (by omega)]
  rfl
/-- 2 digits. -/
def dec2 (n : Int) : List I := [dgI (n / 10), dgI (n % 10)]
theorem dcr2 (n : Int) : ((dcT n 10 99).bind fun r => T.ret (strOf r)).run = (bif decide (n % 10 + 1 = n % 10 + 1 ∧ n % 10 < 10) then bif decide (n / 10 + 1 = n / 10 + 1 ∧ n / 10 < 10) then some (some [dgT (n / 10), dgT (n % 10)]) else none else none) := by kernel_rfl
theorem dc2 (n : Int) (h0 : 10 ≤ n) (h1 : n ≤ 99) : ∃ hp', (dcT n 10 99).run = some (.ret (.str (dec2 n)), hp') := by
  have h := dcr2 n
  rw [decide_eq_true (show n % 10 + 1 = n % 10 + 1 ∧ n % 10 < 10 by omega), decide_eq_true (show n / 10 + 1 = n / 10 + 1 ∧ n / 10 < 10 by omega)] at h
  obtain ⟨hp', h⟩ := strRun h
  refine ⟨hp', h.trans ?_⟩
  simp only [List.map_cons, List.map_nil, dgT_eq (m := n / 10) (by omega) (by omega), dgT_eq (m := n % 10) (by omega) (by omega)]
  rfl
/-- 3 digits. -/
def dec3 (n : Int) : List I := [dgI (n / 10 / 10), dgI (n / 10 % 10), dgI (n % 10)]
theorem dcr3 (n : Int) : ((dcT n 100 999).bind fun r => T.ret (strOf r)).run = (bif decide (n % 10 + 1 = n % 10 + 1 ∧ n % 10 < 10) then bif decide (n / 10 % 10 + 1 = n / 10 % 10 + 1 ∧ n / 10 % 10 < 10) then bif decide (n / 10 / 10 + 1 = n / 10 / 10 + 1 ∧ n / 10 / 10 < 10) then some (some [dgT (n / 10 / 10), dgT (n / 10 % 10), dgT (n % 10)]) else none else none else none) := by kernel_rfl
theorem dc3 (n : Int) (h0 : 100 ≤ n) (h1 : n ≤ 999) : ∃ hp', (dcT n 100 999).run = some (.ret (.str (dec3 n)), hp') := by
  have h := dcr3 n
  rw [decide_eq_true (show n % 10 + 1 = n % 10 + 1 ∧ n % 10 < 10 by omega), decide_eq_true (show n / 10 % 10 + 1 = n / 10 % 10 + 1 ∧ n / 10 % 10 < 10 by omega), decide_eq_true (show n / 10 / 10 + 1 = n / 10 / 10 + 1 ∧ n / 10 / 10 < 10 by omega)] at h
  obtain ⟨hp', h⟩ := strRun h
  refine ⟨hp', h.trans ?_⟩
  simp only [List.map_cons, List.map_nil, dgT_eq (m := n / 10 / 10) (by omega) (by omega), dgT_eq (m := n / 10 % 10) (by omega) (by omega), dgT_eq (m := n % 10) (by omega) (by omega)]
  rfl
/-- 4 digits. -/
def dec4 (n : Int) : List I := [dgI (n / 10 / 10 / 10), dgI (n / 10 / 10 % 10), dgI (n / 10 % 10), dgI (n % 10)]
theorem dcr4 (n : Int) : ((dcT n 1000 9999).bind fun r => T.ret (strOf r)).run = (bif decide (n % 10 + 1 = n % 10 + 1 ∧ n % 10 < 10) then bif decide (n / 10 % 10 + 1 = n / 10 % 10 + 1 ∧ n / 10 % 10 < 10) then bif decide (n / 10 / 10 % 10 + 1 = n / 10 / 10 % 10 + 1 ∧ n / 10 / 10 % 10 < 10) then bif decide (n / 10 / 10 / 10 + 1 = n / 10 / 10 / 10 + 1 ∧ n / 10 / 10 / 10 < 10) then some (some [dgT (n / 10 / 10 / 10), dgT (n / 10 / 10 % 10), dgT (n / 10 % 10), dgT (n % 10)]) else none else none else none else none) := by kernel_rfl
theorem dc4 (n : Int) (h0 : 1000 ≤ n) (h1 : n ≤ 9999) : ∃ hp', (dcT n 1000 9999).run = some (.ret (.str (dec4 n)), hp') := by
  have h := dcr4 n
  rw [decide_eq_true (show n % 10 + 1 = n % 10 + 1 ∧ n % 10 < 10 by omega), decide_eq_true (show n / 10 % 10 + 1 = n / 10 % 10 + 1 ∧ n / 10 % 10 < 10 by omega), decide_eq_true (show n / 10 / 10 % 10 + 1 = n / 10 / 10 % 10 + 1 ∧ n / 10 / 10 % 10 < 10 by omega), decide_eq_true (show n / 10 / 10 / 10 + 1 = n / 10 / 10 / 10 + 1 ∧ n / 10 / 10 / 10 < 10 by omega)] at h
  obtain ⟨hp', h⟩ := strRun h
  refine ⟨hp', h.trans ?_⟩
  simp only [List.map_cons, List.map_nil, dgT_eq (m := n / 10 / 10 / 10) (by omega) (by omega), dgT_eq (m := n / 10 / 10 % 10) (by omega) (by omega), dgT_eq (m := n / 10 % 10) (by omega) (by omega), dgT_eq (m := n % 10) (by omega) (by omega)]
  rfl
/-- 5 digits. -/
def dec5 (n : Int) : List I := [dgI (n / 10 / 10 / 10 / 10), dgI (n / 10 / 10 / 10 % 10), dgI (n / 10 / 10 % 10), dgI (n / 10 % 10), dgI (n % 10)]
theorem dcr5 (n : Int) : ((dcT n 10000 99999).bind fun r => T.ret (strOf r)).run = (bif decide (n % 10 + 1 = n % 10 + 1 ∧ n % 10 < 10) then bif decide (n / 10 % 10 + 1 = n / 10 % 10 + 1 ∧ n / 10 % 10 < 10) then bif decide (n / 10 / 10 % 10 + 1 = n / 10 / 10 % 10 + 1 ∧ n / 10 / 10 % 10 < 10) then bif decide (n / 10 / 10 / 10 % 10 + 1 = n / 10 / 10 / 10 % 10 + 1 ∧ n / 10 / 10 / 10 % 10 < 10) then bif decide (n / 10 / 10 / 10 / 10 + 1 = n / 10 / 10 / 10 / 10 + 1 ∧ n / 10 / 10 / 10 / 10 < 10) then some (some [dgT (n / 10 / 10 / 10 / 10), dgT (n / 10 / 10 / 10 % 10), dgT (n / 10 / 10 % 10), dgT (n / 10 % 10), dgT (n % 10)]) else none else none else none else none else none) := by kernel_rfl
theorem dc5 (n : Int) (h0 : 10000 ≤ n) (h1 : n ≤ 99999) : ∃ hp', (dcT n 10000 99999).run = some (.ret (.str (dec5 n)), hp') := by
  have h := dcr5 n
  rw [decide_eq_true (show n % 10 + 1 = n % 10 + 1 ∧ n % 10 < 10 by omega), decide_eq_true (show n / 10 % 10 + 1 = n / 10 % 10 + 1 ∧ n / 10 % 10 < 10 by omega), decide_eq_true (show n / 10 / 10 % 10 + 1 = n / 10 / 10 % 10 + 1 ∧ n / 10 / 10 % 10 < 10 by omega), decide_eq_true (show n / 10 / 10 / 10 % 10 + 1 = n / 10 / 10 / 10 % 10 + 1 ∧ n / 10 / 10 / 10 % 10 < 10 by omega), decide_eq_true (show n / 10 / 10 / 10 / 10 + 1 = n / 10 / 10 / 10 / 10 + 1 ∧ n / 10 / 10 / 10 / 10 < 10 by omega)] at h
  obtain ⟨hp', h⟩ := strRun h
  refine ⟨hp', h.trans ?_⟩
  simp only [List.map_cons, List.map_nil, dgT_eq (m := n / 10 / 10 / 10 / 10) (by omega) (by omega), dgT_eq (m := n / 10 / 10 / 10 % 10) (by omega) (by omega), dgT_eq (m := n / 10 / 10 % 10) (by omega) (by omega), dgT_eq (m := n / 10 % 10) (by omega) (by omega), dgT_eq (m := n % 10) (by omega) (by omega)]
  rfl
def decSum : Summ := fun _ hp args => match args with
  | [.int k i] => match decide (k = .i64) && ile 0 i.lo && ile i.hi 99999 with
    | true => .br (decide (i.n < 10)) (.ret (.ret (.str (dec1 i.n)), hp)) (.br (decide (i.n < 100)) (.ret (.ret (.str (dec2 i.n)), hp)) (.br (decide (i.n < 1000)) (.ret (.ret (.str (dec3 i.n)), hp))
      (.br (decide (i.n < 10000)) (.ret (.ret (.str (dec4 i.n)), hp)) (.ret (.ret (.str (dec5 i.n)), hp)))))
    | false => .fail
  | _ => .fail
theorem dec_call {n lo hi : Int} {s : List I} {hp' : Hp} (h : (dcT n lo hi).run = some (.ret (.str s), hp')) (h0 : lo ≤ n) (h1 : n ≤ hi) {ro : RO} {w0 : Base} {F : Nat → Prop} {ρ : Ren} {hp : Hp} {w : World} (hr : Rel w0 F 6 ro ρ hp w) :
    (∀ w, (callFunc 18 ⟨[.int .i64 n]⟩).run Tryz.prog w = .ok (.enter 18 ⟨[.int .i64 n]⟩) w) ∧ Calls Tryz.prog 18 ⟨[.int .i64 n]⟩ w (EndR w0 F 6 ro ρ (.ret (.str s), hp)) :=
  pureCall (callAOK sm1_ok) (args := [.int .i64 ⟨n, lo, hi⟩]) h rfl rfl hr ⟨_, _, rfl, int_VR h0 h1, rfl⟩
theorem dec_at : SumAt 18 decSum := by
  intro ro hp args r hr w0 F ρ w l hrel hl
  unfold decSum at hr
  split at hr <;> try (cases hr; done)
  rename_i k i
  split at hr <;> try (cases hr; done)
  rename_i hc
  simp only [Bool.and_eq_true, decide_eq_true_eq, ile_iff] at hc
  obtain ⟨⟨rfl, h1⟩, h2⟩ := hc
  obtain ⟨x, xs, rfl, ⟨n, rfl, hn⟩, hnil⟩ := hl
  have e : xs = [] := hnil
  subst e
  obtain ⟨e, hlo, hhi⟩ := hn
  subst e
  simp only [T.run] at hr
  by_cases g1 : i.n < 10
  · rw [decide_eq_true g1] at hr; injection hr with hr; subst hr
    obtain ⟨hp', h⟩ := dc1 i.n (by omega) (by omega)
    exact dec_call h (by omega) (by omega) hrel
  rw [decide_eq_false g1] at hr
  by_cases g2 : i.n < 100
  · rw [decide_eq_true g2] at hr; injection hr with hr; subst hr
    obtain ⟨hp', h⟩ := dc2 i.n (by omega) (by omega)
    exact dec_call h (by omega) (by omega) hrel
  rw [decide_eq_false g2] at hr
  by_cases g3 : i.n < 1000
  · rw [decide_eq_true g3] at hr; injection hr with hr; subst hr
    obtain ⟨hp', h⟩ := dc3 i.n (by omega) (by omega)
    exact dec_call h (by omega) (by omega) hrel
  rw [decide_eq_false g3] at hr
  by_cases g4 : i.n < 10000
  · rw [decide_eq_true g4] at hr; injection hr with hr; subst hr
    obtain ⟨hp', h⟩ := dc4 i.n (by omega) (by omega)
    exact dec_call h (by omega) (by omega) hrel
  rw [decide_eq_false g4] at hr
  injection hr with hr; subst hr
  obtain ⟨hp', h⟩ := dc5 i.n (by omega) (by omega)
  exact dec_call h (by omega) (by omega) hrel
end Go.Proofs.YtlmacdfbdhpljaaGreatDoor
