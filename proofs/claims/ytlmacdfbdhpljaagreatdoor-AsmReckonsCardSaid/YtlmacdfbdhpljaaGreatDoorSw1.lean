/- Own text: what eval makes of each kind of node. -/
import Derived.Test.YtlmacdfbdhpljaaGreatDoorSw0
namespace Go.Proofs.YtlmacdfbdhpljaaGreatDoor
open Go.Ev Go.Ev.Tr Go.Proofs
set_option maxRecDepth 1000000
abbrev mA (m : EvM) (c : Dv) (xs : List Dv) (h : Int) : Int := (m c (.ptr xs 0) h).getD 0
def fitT (v : Int) : Option (Option Int) := bif decide (v < -2147483648) then some none else bif decide (2147483647 < v) then some none else some (some v)
def twoT (m : EvM) (c : Dv) (h : Int) (xs ys : List Dv) (t : Option (Option Int)) : Option (Option Int) := bif (m c (.ptr xs 0) h).isSome then bif (m c (.ptr ys 0) h).isSome then t else none else none
def binN (op : List UInt8) (pl : Int) (xs ys : List Dv) : Dv := mkN op pl 0 [] (.sl 1 [.ptr xs 0, .ptr ys 0])
theorem ev_add (m : EvM) (c : Dv) (h pl : Int) (xs ys : List Dv) : (evalI m c (binN [43] pl xs ys) h).run = twoT m c h xs ys (fitT (mA m c xs h + mA m c ys h)) := by kernel_rfl
theorem ev_sub (m : EvM) (c : Dv) (h pl : Int) (xs ys : List Dv) : (evalI m c (binN [45] pl xs ys) h).run = twoT m c h xs ys (fitT (mA m c xs h - mA m c ys h)) := by kernel_rfl
theorem ev_mul (m : EvM) (c : Dv) (h pl : Int) (xs ys : List Dv) : (evalI m c (binN [42] pl xs ys) h).run = twoT m c h xs ys (fitT (mA m c xs h * mA m c ys h)) := by kernel_rfl
theorem ev_div (m : EvM) (c : Dv) (h pl : Int) (xs ys : List Dv) : (evalI m c (binN [47] pl xs ys) h).run = twoT m c h xs ys (bif mA m c ys h == 0 then none else bif ieq (mA m c ys h) 0 then none else fitT (IntKind.i64.wrap ((mA m c xs h).tdiv (mA m c ys h)))) := by kernel_rfl
theorem ev_rem (m : EvM) (c : Dv) (h pl : Int) (xs ys : List Dv) : (evalI m c (binN [37] pl xs ys) h).run = twoT m c h xs ys (bif mA m c ys h == 0 then none else bif ieq (mA m c ys h) 0 then none else some (some ((mA m c xs h).tmod (mA m c ys h)))) := by kernel_rfl
theorem ev_and (m : EvM) (c : Dv) (h pl : Int) (xs ys : List Dv) : (evalI m c (binN [38] pl xs ys) h).run = twoT m c h xs ys (fitT (iand .i64 (i32I (mA m c xs h)) (i32I (mA m c ys h))).n) := by kernel_rfl
theorem ev_or (m : EvM) (c : Dv) (h pl : Int) (xs ys : List Dv) : (evalI m c (binN [124] pl xs ys) h).run = twoT m c h xs ys (fitT (ior .i64 (i32I (mA m c xs h)) (i32I (mA m c ys h))).n) := by kernel_rfl
theorem ev_xor (m : EvM) (c : Dv) (h pl : Int) (xs ys : List Dv) : (evalI m c (binN [94] pl xs ys) h).run = twoT m c h xs ys (fitT (ixor .i64 (i32I (mA m c xs h)) (i32I (mA m c ys h))).n) := by kernel_rfl
theorem ev_shl (m : EvM) (c : Dv) (h pl : Int) (xs ys : List Dv) : (evalI m c (binN [60, 60] pl xs ys) h).run = twoT m c h xs ys (bif decide (mA m c ys h < 0) then none else bif decide (31 < mA m c ys h) then none else bif decide (0 ≤ mA m c ys h) then fitT (IntKind.i64.wrap (mA m c xs h * p2 (min (mA m c ys h).toNat 64))) else none) := by kernel_rfl
theorem ev_shr (m : EvM) (c : Dv) (h pl : Int) (xs ys : List Dv) : (evalI m c (binN [62, 62] pl xs ys) h).run = twoT m c h xs ys (bif decide (0 ≤ mA m c ys h) && decide (mA m c ys h ≤ 31) then some (some (mA m c xs h / p2 (min (mA m c ys h).toNat 64))) else none) := by kernel_rfl
/-! ### of one -/
def oneN (op : List UInt8) (pl : Int) (xs : List Dv) : Dv := mkN op pl 0 [] (.sl 1 [.ptr xs 0])
def oneT (m : EvM) (c : Dv) (h : Int) (xs : List Dv) (t : Option (Option Int)) : Option (Option Int) := bif (m c (.ptr xs 0) h).isSome then t else none
theorem ev_high (m : EvM) (c : Dv) (h pl : Int) (xs : List Dv) : (evalI m c (oneN [104, 105, 103, 104] pl xs) h).run = oneT m c h xs (some (some (mA m c xs h / 256 % 256))) := by kernel_rfl
theorem ev_low (m : EvM) (c : Dv) (h pl : Int) (xs : List Dv) : (evalI m c (oneN [108, 111, 119] pl xs) h).run = oneT m c h xs (some (some (mA m c xs h % 256))) := by kernel_rfl
theorem ev_neg (m : EvM) (c : Dv) (h pl : Int) (xs : List Dv) : (evalI m c (oneN [110, 101, 103] pl xs) h).run = oneT m c h xs (bif decide (2147483647 < 0 - mA m c xs h) then some none else some (some (0 - mA m c xs h))) := by kernel_rfl
/-! ### numbers, names -/
theorem ev_num (m : EvM) (c : Dv) (h pl n : Int) : (evalI m c (numN pl n) h).run = fitT n := by kernel_rfl

/-- The names x0, x1 and so on, with their values. -/
def nmL (vs : Nat → Int) (i : Nat) : Nat → List Dv
  | 0 => []
  | n + 1 => .str [120, UInt8.ofNat (48 + i)] :: .int .i64 (vs i) :: nmL vs (i + 1) n
def nmC (vs : Nat → Int) : Nat → Dv
  | 0 => .ptr [.nils] 0
  | n + 1 => .ptr [.sl 2 (nmL vs 0 (n + 1))] 0
def nmN (pl : Int) (i : Nat) : Dv := nameN pl [120, UInt8.ofNat (48 + i)]
theorem ev_nm10 (m : EvM) (vs : Nat → Int) (h pl : Int) : (evalI m (nmC vs 1) (nmN pl 0) h).run = fitT (vs 0) := by kernel_rfl
theorem ev_nm20 (m : EvM) (vs : Nat → Int) (h pl : Int) : (evalI m (nmC vs 2) (nmN pl 0) h).run = fitT (vs 0) := by kernel_rfl
theorem ev_nm21 (m : EvM) (vs : Nat → Int) (h pl : Int) : (evalI m (nmC vs 2) (nmN pl 1) h).run = fitT (vs 1) := by kernel_rfl
theorem ev_nm30 (m : EvM) (vs : Nat → Int) (h pl : Int) : (evalI m (nmC vs 3) (nmN pl 0) h).run = fitT (vs 0) := by kernel_rfl
theorem ev_nm31 (m : EvM) (vs : Nat → Int) (h pl : Int) : (evalI m (nmC vs 3) (nmN pl 1) h).run = fitT (vs 1) := by kernel_rfl
theorem ev_nm32 (m : EvM) (vs : Nat → Int) (h pl : Int) : (evalI m (nmC vs 3) (nmN pl 2) h).run = fitT (vs 2) := by kernel_rfl
theorem ev_nm40 (m : EvM) (vs : Nat → Int) (h pl : Int) : (evalI m (nmC vs 4) (nmN pl 0) h).run = fitT (vs 0) := by kernel_rfl
theorem ev_nm41 (m : EvM) (vs : Nat → Int) (h pl : Int) : (evalI m (nmC vs 4) (nmN pl 1) h).run = fitT (vs 1) := by kernel_rfl
theorem ev_nm42 (m : EvM) (vs : Nat → Int) (h pl : Int) : (evalI m (nmC vs 4) (nmN pl 2) h).run = fitT (vs 2) := by kernel_rfl
theorem ev_nm43 (m : EvM) (vs : Nat → Int) (h pl : Int) : (evalI m (nmC vs 4) (nmN pl 3) h).run = fitT (vs 3) := by kernel_rfl
theorem ev_nm50 (m : EvM) (vs : Nat → Int) (h pl : Int) : (evalI m (nmC vs 5) (nmN pl 0) h).run = fitT (vs 0) := by kernel_rfl
theorem ev_nm51 (m : EvM) (vs : Nat → Int) (h pl : Int) : (evalI m (nmC vs 5) (nmN pl 1) h).run = fitT (vs 1) := by kernel_rfl
theorem ev_nm52 (m : EvM) (vs : Nat → Int) (h pl : Int) : (evalI m (nmC vs 5) (nmN pl 2) h).run = fitT (vs 2) := by kernel_rfl
theorem ev_nm53 (m : EvM) (vs : Nat → Int) (h pl : Int) : (evalI m (nmC vs 5) (nmN pl 3) h).run = fitT (vs 3) := by kernel_rfl
theorem ev_nm54 (m : EvM) (vs : Nat → Int) (h pl : Int) : (evalI m (nmC vs 5) (nmN pl 4) h).run = fitT (vs 4) := by kernel_rfl
theorem ev_nm60 (m : EvM) (vs : Nat → Int) (h pl : Int) : (evalI m (nmC vs 6) (nmN pl 0) h).run = fitT (vs 0) := by kernel_rfl
theorem ev_nm61 (m : EvM) (vs : Nat → Int) (h pl : Int) : (evalI m (nmC vs 6) (nmN pl 1) h).run = fitT (vs 1) := by kernel_rfl
theorem ev_nm62 (m : EvM) (vs : Nat → Int) (h pl : Int) : (evalI m (nmC vs 6) (nmN pl 2) h).run = fitT (vs 2) := by kernel_rfl
theorem ev_nm63 (m : EvM) (vs : Nat → Int) (h pl : Int) : (evalI m (nmC vs 6) (nmN pl 3) h).run = fitT (vs 3) := by kernel_rfl
theorem ev_nm64 (m : EvM) (vs : Nat → Int) (h pl : Int) : (evalI m (nmC vs 6) (nmN pl 4) h).run = fitT (vs 4) := by kernel_rfl
theorem ev_nm65 (m : EvM) (vs : Nat → Int) (h pl : Int) : (evalI m (nmC vs 6) (nmN pl 5) h).run = fitT (vs 5) := by kernel_rfl
theorem ev_nm (m : EvM) (vs : Nat → Int) (h pl : Int) : ∀ n i : Nat, n ≤ 6 → i < n → (evalI m (nmC vs n) (nmN pl i) h).run = fitT (vs i)
  | 1, 0, _, _ => ev_nm10 m vs h pl
  | 2, 0, _, _ => ev_nm20 m vs h pl
  | 2, 1, _, _ => ev_nm21 m vs h pl
  | 3, 0, _, _ => ev_nm30 m vs h pl
  | 3, 1, _, _ => ev_nm31 m vs h pl
  | 3, 2, _, _ => ev_nm32 m vs h pl
  | 4, 0, _, _ => ev_nm40 m vs h pl
  | 4, 1, _, _ => ev_nm41 m vs h pl
  | 4, 2, _, _ => ev_nm42 m vs h pl
  | 4, 3, _, _ => ev_nm43 m vs h pl
  | 5, 0, _, _ => ev_nm50 m vs h pl
  | 5, 1, _, _ => ev_nm51 m vs h pl
  | 5, 2, _, _ => ev_nm52 m vs h pl
  | 5, 3, _, _ => ev_nm53 m vs h pl
  | 5, 4, _, _ => ev_nm54 m vs h pl
  | 6, 0, _, _ => ev_nm60 m vs h pl
  | 6, 1, _, _ => ev_nm61 m vs h pl
  | 6, 2, _, _ => ev_nm62 m vs h pl
  | 6, 3, _, _ => ev_nm63 m vs h pl
  | 6, 4, _, _ => ev_nm64 m vs h pl
  | 6, 5, _, _ => ev_nm65 m vs h pl
  | 0, _, _, h => absurd h (by omega)
  | 1, i + 1, _, h => absurd h (by omega)
  | 2, i + 2, _, h => absurd h (by omega)
  | 3, i + 3, _, h => absurd h (by omega)
  | 4, i + 4, _, h => absurd h (by omega)
  | 5, i + 5, _, h => absurd h (by omega)
  | 6, i + 6, _, h => absurd h (by omega)
  | n + 7, _, h, _ => absurd h (by omega)
/-! ### values -/
theorem fits_iff {n : Int} : fits32 n = true ↔ -2147483648 ≤ n ∧ n ≤ 2147483647 := by simp [fits32]
theorem fitT_of {n : Int} (h : fits32 n = true) : fitT n = some (some n) := by
  have h := fits_iff.1 h
  unfold fitT
  rw [decide_eq_false (by omega), decide_eq_false (by omega)]; rfl
theorem upE_of {m : EvM} {c d : Dv} {h v : Int} (h1 : (evalI m c d h).run = some (some v)) (h2 : fits32 v = true) : upE m c d h = some v := by
  unfold upE
  rw [h1]
  simp only [h2]
theorem twoT_of {m : EvM} {c : Dv} {h a b : Int} {xs ys : List Dv} {t : Option (Option Int)} (ha : m c (.ptr xs 0) h = some a) (hb : m c (.ptr ys 0) h = some b) : twoT m c h xs ys t = t := by
  unfold twoT
  rw [ha, hb]; rfl
theorem oneT_of {m : EvM} {c : Dv} {h a : Int} {xs : List Dv} {t : Option (Option Int)} (ha : m c (.ptr xs 0) h = some a) : oneT m c h xs t = t := by
  unfold oneT
  rw [ha]; rfl
theorem mA_of {m : EvM} {c : Dv} {h a : Int} {xs : List Dv} (ha : m c (.ptr xs 0) h = some a) : mA m c xs h = a := by
  unfold mA
  rw [ha]; rfl
end Go.Proofs.YtlmacdfbdhpljaaGreatDoor
