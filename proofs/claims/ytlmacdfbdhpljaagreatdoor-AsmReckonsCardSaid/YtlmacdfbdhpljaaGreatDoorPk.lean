/- Own text: pick. -/
import Derived.Test.YtlmacdfbdhpljaaGreatDoorSt
namespace Go.Proofs.YtlmacdfbdhpljaaGreatDoor
open Go.Ev Go.Ev.Tr Go.Proofs
set_option maxRecDepth 1000000
/-! ### pick -/
noncomputable def pk (c n : Int) : T (AEnd × Hp) := callA sm1 noRO 17 [kb .i64 c, .int .i64 ⟨n, 1, 65536⟩] (startHp 6 1000000)
def leaf (b : Bool) : T (AEnd × Hp) → Option (Bool × IntKind × Int)
  | .br c x y => match (match b with
      | true => x
      | false => y) with
    | .ret (.ret (.int k i), _) => some (c, k, i.n)
    | _ => none
  | _ => none
theorem pick1 : (fun c n => leaf true (pk c n)) = (fun c n => some (decide (c < 0), .i64, ((IntKind.i64.wrap (0 - IntKind.i64.wrap (c + 1))).tmod n))) := by kernel_rfl
theorem pick2 : (fun c n => leaf false (pk c n)) = (fun c n => some (decide (c < 0), .i64, (c.tmod n))) := by kernel_rfl
theorem leaf_run {b : Bool} {t : T (AEnd × Hp)} {k : IntKind} {q : Int} (h : leaf b t = some (b, k, q)) : ∃ i hp', t.run = some (.ret (.int k i), hp') ∧ i.n = q := by
  unfold leaf at h
  split at h <;> try contradiction
  rename_i c x y
  split at h <;> try contradiction
  rename_i k' i hp' he
  simp only [Option.some.injEq, Prod.mk.injEq] at h
  obtain ⟨rfl, rfl, hq⟩ := h
  refine ⟨i, hp', ?_, hq⟩
  cases c <;> simp only [T.run, cond_true, cond_false] <;> simp only at he <;> rw [he] <;> rfl
def pckV (c n : Int) : Int := match decide (c < 0) with
  | true => (-(c + 1)) % n
  | false => c % n
theorem pckV_in {c n : Int} (hn : 0 < n) : 0 ≤ pckV c n ∧ pckV c n ≤ n - 1 := by
  unfold pckV
  have h1 := Int.emod_nonneg (-(c + 1)) (show n ≠ 0 by omega)
  have h2 := Int.emod_lt_of_pos (-(c + 1)) hn
  have h3 := Int.emod_nonneg c (show n ≠ 0 by omega)
  have h4 := Int.emod_lt_of_pos c hn
  split <;> omega
theorem pick_run {c n : Int} (h1 : kmin .i64 ≤ c) (h2 : c ≤ kmax .i64) (_ : 0 < n) : ∃ i hp', (pk c n).run = some (.ret (.int .i64 i), hp') ∧ i.n = pckV c n := by
  have k1 : kmin .i64 = -9223372036854775808 := rfl
  have k2 : kmax .i64 = 9223372036854775807 := rfl
  unfold pckV
  by_cases hc : c < 0
  · have := congrFun (congrFun pick1 c) n
    simp only [decide_eq_true hc] at this ⊢
    obtain ⟨i, hp', e1, e2⟩ := leaf_run this
    refine ⟨i, hp', e1, ?_⟩
    rw [e2, wrap_id (k := .i64) (n := c + 1) (by omega) (by omega), wrap_id (k := .i64) (by omega) (by omega)]
    rw [Int.tmod_eq_emod_of_nonneg (by omega)]
    congr 1; omega
  · have := congrFun (congrFun pick2 c) n
    simp only [decide_eq_false hc] at this ⊢
    obtain ⟨i, hp', e1, e2⟩ := leaf_run this
    refine ⟨i, hp', e1, ?_⟩
    rw [e2, Int.tmod_eq_emod_of_nonneg (by omega)]
def pckI (c : I) (m : Nat) : I := match ieq c.lo c.hi with
  | true => I.lit (pckV c.lo m)
  | false => ⟨pckV c.n m, 0, m - 1⟩
def pickSum : Summ := fun _ hp args => match args with
  | [.int .i64 c, .int .i64 n] => match litI n with
    | some m => match Nat.ble 1 m && Nat.ble m 65536 && ile (kmin .i64) c.lo && ile c.hi (kmax .i64) with
      | true => .ret (.ret (.int .i64 (pckI c m)), hp)
      | false => .fail
    | none => .fail
  | _ => .fail
theorem pickSum_sound {ro : RO} {hp : Hp} {args : List V} {r : AEnd × Hp} (h : (pickSum ro hp args).run = some r) {w0 : Base} {F : Nat → Prop} {ρ : Ren} {w : World} {l : List Value} (hr : Rel w0 F 6 ro ρ hp w) (hl : VRs ρ args l) :
    (∀ w, (callFunc 17 ⟨l⟩).run Tryz.prog w = .ok (.enter 17 ⟨l⟩) w) ∧ Calls Tryz.prog 17 ⟨l⟩ w (EndR w0 F 6 ro ρ r) := by
  unfold pickSum at h
  split at h <;> try (cases h; done)
  rename_i c n
  split at h <;> try (cases h; done)
  rename_i m hm
  split at h <;> try (cases h; done)
  rename_i hc
  simp only [Bool.and_eq_true, ile_iff] at hc
  obtain ⟨⟨⟨c1, c2⟩, c3⟩, c4⟩ := hc
  have c1 := Nat.le_of_ble_eq_true c1
  have c2 := Nat.le_of_ble_eq_true c2
  injection h with h; subst h
  obtain ⟨x, xs, rfl, ⟨cv, rfl, hcv⟩, y, ys, rfl, ⟨nv, rfl, hnv⟩, hnil⟩ := hl
  simp only [VRs] at hnil; subst hnil
  have en := litI_int hm hnv
  subst en
  have hcn := hcv.1
  have hcb := hcv.2
  obtain ⟨i, hp', hrun, hi⟩ := pick_run (c := cv) (n := m) (by omega) (by omega) (by omega)
  have hvs : VRs ρ [kb .i64 cv, .int .i64 ⟨m, 1, 65536⟩] [.int .i64 cv, .int .i64 m] :=
    ⟨_, _, rfl, ⟨cv, rfl, rfl, by show kmin .i64 ≤ cv; omega, by show cv ≤ kmax .i64; omega⟩, _, _, rfl, ⟨m, rfl, rfl, by show (1 : Int) ≤ (m : Int); omega, by show (m : Int) ≤ 65536; omega⟩, rfl⟩
  obtain ⟨g1, g2⟩ := pureCall (callAOK sm1_ok) (f := 17) (L := 1000000) hrun rfl rfl hr hvs
  refine ⟨g1, g2.mono fun e w' ⟨ρ', k1, k2, x, hx, hv⟩ => ⟨ρ', k1, k2, x, hx, ?_⟩⟩
  obtain ⟨q, rfl, hq⟩ := hv
  refine ⟨q, rfl, ?_⟩
  have hqv : q = pckV cv m := by rw [hq.1, hi]
  have hb := pckV_in (c := cv) (n := m) (by omega)
  unfold pckI
  split
  · rename_i he
    rw [ieq_iff] at he
    have : cv = c.lo := by omega
    rw [hqv, this]; exact IR.lit _
  · exact ⟨by rw [hqv, hcn], by show 0 ≤ q; omega, by show q ≤ (m : Int) - 1; omega⟩
theorem pick_at : SumAt 17 pickSum := fun _ _ _ _ h _ _ _ _ _ hr hl => pickSum_sound h hr hl
def u8a (n : Int) : V := .int .u8 ⟨n, 0, 255⟩
def i64a (n : Int) : V := .int .i64 ⟨n, -9223372036854775808, 9223372036854775807⟩
/-- Does every leaf return true? -/
def leafT' (r : AEnd × Hp) : Bool := match r.1 with
  | .ret (.bool b) => b
  | .ret (.sbool b) => b
  | _ => false
theorem allTrue_run {t : T (AEnd × Hp)} (h : T.all leafT' t = true) : trueB t.run = true := by
  obtain ⟨⟨e, hp⟩, h1, h2⟩ := T.all_run h
  rw [h1]
  unfold leafT' at h2
  unfold trueB
  simp only [endOf]
  simp only at h2
  split at h2 <;> simp_all
end Go.Proofs.YtlmacdfbdhpljaaGreatDoor
