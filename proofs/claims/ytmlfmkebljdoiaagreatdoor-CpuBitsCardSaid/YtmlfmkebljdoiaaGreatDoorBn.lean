/- Own text: CpuBits: what BIT, RES and SET reckon. -/
import Derived.Test.YtmlfmkebljdoiaaGreatDoorBm
namespace Go.Proofs.YtmlfmkebljdoiaaGreatDoor
open Go.Ev Go.Ev.Tr Go.Proofs
set_option maxRecDepth 1000000
def view1 (r : AEnd × Hp) : Option Int := match r.1 with
  | .ret (.int _ a) => some a.n
  | _ => none
theorem alu1_of {f : Nat} {as' : List V} {p : Int} (h : ((call0 ro0 f as' (startHp 2 1000000)).bind fun r => T.ofOpt (view1 r)).run = some p) : alu1 f as' = p := by
  obtain ⟨⟨e, hp'⟩, h1, h2⟩ := T.run_bind_some h
  rw [T.run_ofOpt] at h2
  unfold view1 at h2
  split at h2 <;> try contradiction
  rename_i k a he
  simp only at he; subst he
  injection h2 with h2; subst h2
  unfold alu1
  rw [h1]; rfl
def bitW (c : Bool) (F : Int) : Option Int := bif c then (bif !(andf F 16 == 0) then some 176 else some 160) else (bif !(andf F 16 == 0) then some 48 else some 32)
theorem bv0 : (fun v F => ((call0 ro0 163 [.int .i64 (I.lit ((0 : Nat) : Int)), kb .u8 v, kb .u8 F] (startHp 2 1000000)).bind fun r => T.ofOpt (view1 r)).run) = (fun v F => bitW (v % 2 == 0) F) := by kernel_rfl
theorem rv0 : (fun v => ((call0 ro0 164 [.int .i64 (I.lit ((0 : Nat) : Int)), kb .u8 v] (startHp 2 1000000)).bind fun r => T.ofOpt (view1 r)).run) = (fun v => some (anf v ((2 ^ 0 : Nat) : Int))) := by kernel_rfl
theorem sv0 : (fun v => ((call0 ro0 165 [.int .i64 (I.lit ((0 : Nat) : Int)), kb .u8 v] (startHp 2 1000000)).bind fun r => T.ofOpt (view1 r)).run) = (fun v => some (orf v ((2 ^ 0 : Nat) : Int))) := by kernel_rfl
theorem bv1 : (fun v F => ((call0 ro0 163 [.int .i64 (I.lit ((1 : Nat) : Int)), kb .u8 v, kb .u8 F] (startHp 2 1000000)).bind fun r => T.ofOpt (view1 r)).run) = (fun v F => bitW (andf v ((2 ^ 1 : Nat) : Int) == 0) F) := by kernel_rfl
theorem rv1 : (fun v => ((call0 ro0 164 [.int .i64 (I.lit ((1 : Nat) : Int)), kb .u8 v] (startHp 2 1000000)).bind fun r => T.ofOpt (view1 r)).run) = (fun v => some (anf v ((2 ^ 1 : Nat) : Int))) := by kernel_rfl
theorem sv1 : (fun v => ((call0 ro0 165 [.int .i64 (I.lit ((1 : Nat) : Int)), kb .u8 v] (startHp 2 1000000)).bind fun r => T.ofOpt (view1 r)).run) = (fun v => some (orf v ((2 ^ 1 : Nat) : Int))) := by kernel_rfl
theorem bv2 : (fun v F => ((call0 ro0 163 [.int .i64 (I.lit ((2 : Nat) : Int)), kb .u8 v, kb .u8 F] (startHp 2 1000000)).bind fun r => T.ofOpt (view1 r)).run) = (fun v F => bitW (andf v ((2 ^ 2 : Nat) : Int) == 0) F) := by kernel_rfl
theorem rv2 : (fun v => ((call0 ro0 164 [.int .i64 (I.lit ((2 : Nat) : Int)), kb .u8 v] (startHp 2 1000000)).bind fun r => T.ofOpt (view1 r)).run) = (fun v => some (anf v ((2 ^ 2 : Nat) : Int))) := by kernel_rfl
theorem sv2 : (fun v => ((call0 ro0 165 [.int .i64 (I.lit ((2 : Nat) : Int)), kb .u8 v] (startHp 2 1000000)).bind fun r => T.ofOpt (view1 r)).run) = (fun v => some (orf v ((2 ^ 2 : Nat) : Int))) := by kernel_rfl
theorem bv3 : (fun v F => ((call0 ro0 163 [.int .i64 (I.lit ((3 : Nat) : Int)), kb .u8 v, kb .u8 F] (startHp 2 1000000)).bind fun r => T.ofOpt (view1 r)).run) = (fun v F => bitW (andf v ((2 ^ 3 : Nat) : Int) == 0) F) := by kernel_rfl
theorem rv3 : (fun v => ((call0 ro0 164 [.int .i64 (I.lit ((3 : Nat) : Int)), kb .u8 v] (startHp 2 1000000)).bind fun r => T.ofOpt (view1 r)).run) = (fun v => some (anf v ((2 ^ 3 : Nat) : Int))) := by kernel_rfl
theorem sv3 : (fun v => ((call0 ro0 165 [.int .i64 (I.lit ((3 : Nat) : Int)), kb .u8 v] (startHp 2 1000000)).bind fun r => T.ofOpt (view1 r)).run) = (fun v => some (orf v ((2 ^ 3 : Nat) : Int))) := by kernel_rfl
theorem bv4 : (fun v F => ((call0 ro0 163 [.int .i64 (I.lit ((4 : Nat) : Int)), kb .u8 v, kb .u8 F] (startHp 2 1000000)).bind fun r => T.ofOpt (view1 r)).run) = (fun v F => bitW (andf v ((2 ^ 4 : Nat) : Int) == 0) F) := by kernel_rfl
theorem rv4 : (fun v => ((call0 ro0 164 [.int .i64 (I.lit ((4 : Nat) : Int)), kb .u8 v] (startHp 2 1000000)).bind fun r => T.ofOpt (view1 r)).run) = (fun v => some (anf v ((2 ^ 4 : Nat) : Int))) := by kernel_rfl
theorem sv4 : (fun v => ((call0 ro0 165 [.int .i64 (I.lit ((4 : Nat) : Int)), kb .u8 v] (startHp 2 1000000)).bind fun r => T.ofOpt (view1 r)).run) = (fun v => some (orf v ((2 ^ 4 : Nat) : Int))) := by kernel_rfl
theorem bv5 : (fun v F => ((call0 ro0 163 [.int .i64 (I.lit ((5 : Nat) : Int)), kb .u8 v, kb .u8 F] (startHp 2 1000000)).bind fun r => T.ofOpt (view1 r)).run) = (fun v F => bitW (andf v ((2 ^ 5 : Nat) : Int) == 0) F) := by kernel_rfl
theorem rv5 : (fun v => ((call0 ro0 164 [.int .i64 (I.lit ((5 : Nat) : Int)), kb .u8 v] (startHp 2 1000000)).bind fun r => T.ofOpt (view1 r)).run) = (fun v => some (anf v ((2 ^ 5 : Nat) : Int))) := by kernel_rfl
theorem sv5 : (fun v => ((call0 ro0 165 [.int .i64 (I.lit ((5 : Nat) : Int)), kb .u8 v] (startHp 2 1000000)).bind fun r => T.ofOpt (view1 r)).run) = (fun v => some (orf v ((2 ^ 5 : Nat) : Int))) := by kernel_rfl
theorem bv6 : (fun v F => ((call0 ro0 163 [.int .i64 (I.lit ((6 : Nat) : Int)), kb .u8 v, kb .u8 F] (startHp 2 1000000)).bind fun r => T.ofOpt (view1 r)).run) = (fun v F => bitW (andf v ((2 ^ 6 : Nat) : Int) == 0) F) := by kernel_rfl
theorem rv6 : (fun v => ((call0 ro0 164 [.int .i64 (I.lit ((6 : Nat) : Int)), kb .u8 v] (startHp 2 1000000)).bind fun r => T.ofOpt (view1 r)).run) = (fun v => some (anf v ((2 ^ 6 : Nat) : Int))) := by kernel_rfl
theorem sv6 : (fun v => ((call0 ro0 165 [.int .i64 (I.lit ((6 : Nat) : Int)), kb .u8 v] (startHp 2 1000000)).bind fun r => T.ofOpt (view1 r)).run) = (fun v => some (orf v ((2 ^ 6 : Nat) : Int))) := by kernel_rfl
theorem bv7 : (fun v F => ((call0 ro0 163 [.int .i64 (I.lit ((7 : Nat) : Int)), kb .u8 v, kb .u8 F] (startHp 2 1000000)).bind fun r => T.ofOpt (view1 r)).run) = (fun v F => bitW (andf v ((2 ^ 7 : Nat) : Int) == 0) F) := by kernel_rfl
theorem rv7 : (fun v => ((call0 ro0 164 [.int .i64 (I.lit ((7 : Nat) : Int)), kb .u8 v] (startHp 2 1000000)).bind fun r => T.ofOpt (view1 r)).run) = (fun v => some (anf v ((2 ^ 7 : Nat) : Int))) := by kernel_rfl
theorem sv7 : (fun v => ((call0 ro0 165 [.int .i64 (I.lit ((7 : Nat) : Int)), kb .u8 v] (startHp 2 1000000)).bind fun r => T.ofOpt (view1 r)).run) = (fun v => some (orf v ((2 ^ 7 : Nat) : Int))) := by kernel_rfl
theorem resV_eq {k : Nat} (hk : k ≤ 7) (v : Int) : resV k v = anf v ((2 ^ k : Nat) : Int) := by
  unfold resV
  have hc : k = 0 ∨ k = 1 ∨ k = 2 ∨ k = 3 ∨ k = 4 ∨ k = 5 ∨ k = 6 ∨ k = 7 := by omega
  rcases hc with rfl | rfl | rfl | rfl | rfl | rfl | rfl | rfl
  · exact alu1_of (congrFun rv0 v)
  · exact alu1_of (congrFun rv1 v)
  · exact alu1_of (congrFun rv2 v)
  · exact alu1_of (congrFun rv3 v)
  · exact alu1_of (congrFun rv4 v)
  · exact alu1_of (congrFun rv5 v)
  · exact alu1_of (congrFun rv6 v)
  · exact alu1_of (congrFun rv7 v)
theorem setV_eq {k : Nat} (hk : k ≤ 7) (v : Int) : setV k v = orf v ((2 ^ k : Nat) : Int) := by
  unfold setV
  have hc : k = 0 ∨ k = 1 ∨ k = 2 ∨ k = 3 ∨ k = 4 ∨ k = 5 ∨ k = 6 ∨ k = 7 := by omega
  rcases hc with rfl | rfl | rfl | rfl | rfl | rfl | rfl | rfl
  · exact alu1_of (congrFun sv0 v)
  · exact alu1_of (congrFun sv1 v)
  · exact alu1_of (congrFun sv2 v)
  · exact alu1_of (congrFun sv3 v)
  · exact alu1_of (congrFun sv4 v)
  · exact alu1_of (congrFun sv5 v)
  · exact alu1_of (congrFun sv6 v)
  · exact alu1_of (congrFun sv7 v)
/-- A bit of a byte. -/
theorem bit_and {k : Nat} (hk : k ≤ 7) {v : Int} (h0 : 0 ≤ v) (h1 : v ≤ 255) : (andf v ((2 ^ k : Nat) : Int) == 0) = ((v / p2 (min ((k : Nat) : Int).toNat 64)) % 2 == 0) := by
  obtain ⟨x, rfl⟩ := Int.eq_ofNat_of_zero_le h0
  have key : ∀ k, k < 8 → ∀ x, x < 256 → (((x &&& 2 ^ k) == 0) = ((x / 2 ^ k) % 2 == 0)) := by decide +kernel
  have h := key k (by omega) x (by omega)
  have e1 : min ((k : Nat) : Int).toNat 64 = k := by omega
  have e2 : ∀ a : Nat, (((a : Nat) : Int) == 0) = (a == 0) := fun a => by cases a <;> rfl
  rw [e1]
  have e3 : andf (x : Int) ((2 ^ k : Nat) : Int) = ((x &&& 2 ^ k : Nat) : Int) := rfl
  have e4 : ((x : Int) / p2 k) % 2 = ((x / 2 ^ k % 2 : Nat) : Int) := by unfold p2; omega
  rw [e3, e4, e2, e2]; exact h
theorem bitFv_eq {k : Nat} (hk : k ≤ 7) {v : Int} (h0 : 0 ≤ v) (h1 : v ≤ 255) (F : Int) {q : Int} (h : bitW ((v / p2 (min ((k : Nat) : Int).toNat 64)) % 2 == 0) F = some q) : bitFv k v F = q := by
  unfold bitFv
  have hc : k = 0 ∨ k = 1 ∨ k = 2 ∨ k = 3 ∨ k = 4 ∨ k = 5 ∨ k = 6 ∨ k = 7 := by omega
  rcases hc with rfl | rfl | rfl | rfl | rfl | rfl | rfl | rfl
  · refine alu1_of ((congrFun (congrFun bv0 v) F).trans ?_)
    have e : v % 2 = v / p2 (min ((0 : Nat) : Int).toNat 64) % 2 := by show v % 2 = v / 1 % 2; omega
    rw [e]; exact h
  · exact alu1_of ((congrFun (congrFun bv1 v) F).trans (by rw [bit_and (by omega) h0 h1]; exact h))
  · exact alu1_of ((congrFun (congrFun bv2 v) F).trans (by rw [bit_and (by omega) h0 h1]; exact h))
  · exact alu1_of ((congrFun (congrFun bv3 v) F).trans (by rw [bit_and (by omega) h0 h1]; exact h))
  · exact alu1_of ((congrFun (congrFun bv4 v) F).trans (by rw [bit_and (by omega) h0 h1]; exact h))
  · exact alu1_of ((congrFun (congrFun bv5 v) F).trans (by rw [bit_and (by omega) h0 h1]; exact h))
  · exact alu1_of ((congrFun (congrFun bv6 v) F).trans (by rw [bit_and (by omega) h0 h1]; exact h))
  · exact alu1_of ((congrFun (congrFun bv7 v) F).trans (by rw [bit_and (by omega) h0 h1]; exact h))
def fl9 (F : Int) : Bool → Int
  | true => orf (orf (andf F 16) 32) 128
  | false => orf (andf F 16) 32
theorem bitFv_fl {k : Nat} (hk : k ≤ 7) {v F : Int} (h0 : 0 ≤ v) (h1 : v ≤ 255) (hF0 : 0 ≤ F) (hF1 : F ≤ 255) : bitFv k v F = fl9 F ((v / p2 (min ((k : Nat) : Int).toNat 64)) % 2 == 0) := by
  refine bitFv_eq hk h0 h1 F ?_
  unfold bitW
  have hz := and_cases 16 (.inr (.inr (.inr rfl))) hF0 hF1
  have hz : andf F 16 = 0 ∨ andf F 16 = 16 := hz
  cases hb : (v / p2 (min ((k : Nat) : Int).toNat 64)) % 2 == 0 <;> rcases hz with hz | hz <;> simp only [fl9, hz] <;> rfl
/-- As the law reckons them. -/
theorem one_eq {k : Nat} (hk : k ≤ 7) : IntKind.i64.wrap (1 * p2 (min ((k : Nat) : Int).toNat 64)) = ((2 ^ k : Nat) : Int) := by
  have hc : k = 0 ∨ k = 1 ∨ k = 2 ∨ k = 3 ∨ k = 4 ∨ k = 5 ∨ k = 6 ∨ k = 7 := by omega
  rcases hc with rfl | rfl | rfl | rfl | rfl | rfl | rfl | rfl <;> decide
theorem resL {k : Nat} (hk : k ≤ 7) {v : Int} (h0 : 0 ≤ v) (h1 : v ≤ 255) : bvBack .i64 (BitVec.ofInt 64 v &&& ~~~BitVec.ofInt 64 (IntKind.i64.wrap (1 * p2 (min ((k : Nat) : Int).toNat 64)))) = anf v ((2 ^ k : Nat) : Int) := by
  rw [one_eq hk]
  have h2 : (2 ^ k : Nat) ≤ 2 ^ 7 := Nat.pow_le_pow_right (by omega) hk
  obtain ⟨p, hp⟩ : ∃ p : Nat, p = 2 ^ k := ⟨_, rfl⟩
  rw [← hp] at h2 ⊢
  exact bv_andNot (k := .i64) h0 (by show v ≤ 9223372036854775807; omega) (by omega) (by show (p : Int) ≤ 9223372036854775807; omega)
theorem setL {k : Nat} (hk : k ≤ 7) {v : Int} (h0 : 0 ≤ v) (h1 : v ≤ 255) : bvBack .i64 (BitVec.ofInt 64 v ||| BitVec.ofInt 64 (IntKind.i64.wrap (1 * p2 (min ((k : Nat) : Int).toNat 64)))) = orf v ((2 ^ k : Nat) : Int) := by
  rw [one_eq hk]
  have h2 : (2 ^ k : Nat) ≤ 2 ^ 7 := Nat.pow_le_pow_right (by omega) hk
  obtain ⟨p, hp⟩ : ∃ p : Nat, p = 2 ^ k := ⟨_, rfl⟩
  rw [← hp] at h2 ⊢
  exact bv_or (k := .i64) h0 (by show v ≤ 9223372036854775807; omega) (by omega) (by show (p : Int) ≤ 9223372036854775807; omega)
/-! ### the instructions -/
theorem cb_step {g g' : Rg} {m : Mem} {sub : Int} (hs : g.St = 0) (hop : m (pk16 g.PC) = 203) (hsub : at1 m g = sub) (h : (tickM (X1 (z g.IME g) 203) sub 0).1 = ofR g') : instrM 7 0 (ofR g) m = some (2, ofR g', m) := by
  have hz := z_id hs
  have h1 : firstF g m 203 = instrM 6 1 (X1 g 203) m := by have := congrFun (congrFun (congrFun cbA g.IME) g) m; simp only [hz] at this; exact this
  have h2 : stepC (X1 g 203) m = ofR g' := by rw [hz] at h; rw [← h, ← hsub]; exact congrFun (congrFun cbB g) m
  have h3 : stepM (X1 g 203) m = m := congrFun (congrFun cbM g) m
  refine ins hop ?_
  rw [h1, inst_step (by rfl), h2, h3]; rfl
theorem ch_step {g g' : Rg} {m m' : Mem} {sub q : Int} (hs : g.St = 0) (hop : m (pk16 g.PC) = 203) (hsub : at1 m g = sub) (hmid : (tickM (X1 (z g.IME g) 203) sub 0).1.mid = true) (h : instrM 5 2 (tickM (X1 (z g.IME g) 203) sub 0).1 m = some (q, ofR g', m')) : instrM 7 0 (ofR g) m = some (q, ofR g', m') := by
  have hz := z_id hs
  have h1 : firstF g m 203 = instrM 6 1 (X1 g 203) m := by have := congrFun (congrFun (congrFun cbA g.IME) g) m; simp only [hz] at this; exact this
  have h2 : stepC (X1 g 203) m = (tickM (X1 g 203) sub 0).1 := by rw [← hsub]; exact congrFun (congrFun cbB g) m
  have h3 : stepM (X1 g 203) m = m := congrFun (congrFun cbM g) m
  rw [hz] at h hmid
  refine ins hop ?_
  rw [h1, inst_step (by rfl), h2, h3, hmid]; exact h
theorem cbU1 (b : Bool) (g : Rg) {k n : Nat} (hk : k ≤ 7) (hn : n ≤ 7) (h6 : n ≠ 6) : (tickM (X1 (z b g) 203) (64 * 1 + 8 * (k : Int) + (n : Int)) 0).1 = ofR (z b { g with F := bitFv k (getR g n) g.F, PC := nxt (nxt g.PC) }) := by
  have hd : n = 0 ∨ n = 1 ∨ n = 2 ∨ n = 3 ∨ n = 4 ∨ n = 5 ∨ n = 7 := by omega
  rcases hd with rfl | rfl | rfl | rfl | rfl | rfl | rfl
  · have hc : k = 0 ∨ k = 1 ∨ k = 2 ∨ k = 3 ∨ k = 4 ∨ k = 5 ∨ k = 6 ∨ k = 7 := by omega
    rcases hc with rfl | rfl | rfl | rfl | rfl | rfl | rfl | rfl
    · exact congrFun (cb1_0_0 b) g
    · exact congrFun (cb1_0_1 b) g
    · exact congrFun (cb1_0_2 b) g
    · exact congrFun (cb1_0_3 b) g
    · exact congrFun (cb1_0_4 b) g
    · exact congrFun (cb1_0_5 b) g
    · exact congrFun (cb1_0_6 b) g
    · exact congrFun (cb1_0_7 b) g
  · have hc : k = 0 ∨ k = 1 ∨ k = 2 ∨ k = 3 ∨ k = 4 ∨ k = 5 ∨ k = 6 ∨ k = 7 := by omega
    rcases hc with rfl | rfl | rfl | rfl | rfl | rfl | rfl | rfl
    · exact congrFun (cb1_1_0 b) g
    · exact congrFun (cb1_1_1 b) g
    · exact congrFun (cb1_1_2 b) g
    · exact congrFun (cb1_1_3 b) g
    · exact congrFun (cb1_1_4 b) g
    · exact congrFun (cb1_1_5 b) g
    · exact congrFun (cb1_1_6 b) g
    · exact congrFun (cb1_1_7 b) g
  · have hc : k = 0 ∨ k = 1 ∨ k = 2 ∨ k = 3 ∨ k = 4 ∨ k = 5 ∨ k = 6 ∨ k = 7 := by omega
    rcases hc with rfl | rfl | rfl | rfl | rfl | rfl | rfl | rfl
    · exact congrFun (cb1_2_0 b) g
    · exact congrFun (cb1_2_1 b) g
    · exact congrFun (cb1_2_2 b) g
    · exact congrFun (cb1_2_3 b) g
    · exact congrFun (cb1_2_4 b) g
    · exact congrFun (cb1_2_5 b) g
    · exact congrFun (cb1_2_6 b) g
    · exact congrFun (cb1_2_7 b) g
  · have hc : k = 0 ∨ k = 1 ∨ k = 2 ∨ k = 3 ∨ k = 4 ∨ k = 5 ∨ k = 6 ∨ k = 7 := by omega
    rcases hc with rfl | rfl | rfl | rfl | rfl | rfl | rfl | rfl
    · exact congrFun (cb1_3_0 b) g
    · exact congrFun (cb1_3_1 b) g
    · exact congrFun (cb1_3_2 b) g
    · exact congrFun (cb1_3_3 b) g
    · exact congrFun (cb1_3_4 b) g
    · exact congrFun (cb1_3_5 b) g
    · exact congrFun (cb1_3_6 b) g
    · exact congrFun (cb1_3_7 b) g
  · have hc : k = 0 ∨ k = 1 ∨ k = 2 ∨ k = 3 ∨ k = 4 ∨ k = 5 ∨ k = 6 ∨ k = 7 := by omega
    rcases hc with rfl | rfl | rfl | rfl | rfl | rfl | rfl | rfl
    · exact congrFun (cb1_4_0 b) g
    · exact congrFun (cb1_4_1 b) g
    · exact congrFun (cb1_4_2 b) g
    · exact congrFun (cb1_4_3 b) g
    · exact congrFun (cb1_4_4 b) g
    · exact congrFun (cb1_4_5 b) g
    · exact congrFun (cb1_4_6 b) g
    · exact congrFun (cb1_4_7 b) g
  · have hc : k = 0 ∨ k = 1 ∨ k = 2 ∨ k = 3 ∨ k = 4 ∨ k = 5 ∨ k = 6 ∨ k = 7 := by omega
    rcases hc with rfl | rfl | rfl | rfl | rfl | rfl | rfl | rfl
    · exact congrFun (cb1_5_0 b) g
    · exact congrFun (cb1_5_1 b) g
    · exact congrFun (cb1_5_2 b) g
    · exact congrFun (cb1_5_3 b) g
    · exact congrFun (cb1_5_4 b) g
    · exact congrFun (cb1_5_5 b) g
    · exact congrFun (cb1_5_6 b) g
    · exact congrFun (cb1_5_7 b) g
  · have hc : k = 0 ∨ k = 1 ∨ k = 2 ∨ k = 3 ∨ k = 4 ∨ k = 5 ∨ k = 6 ∨ k = 7 := by omega
    rcases hc with rfl | rfl | rfl | rfl | rfl | rfl | rfl | rfl
    · exact congrFun (cb1_7_0 b) g
    · exact congrFun (cb1_7_1 b) g
    · exact congrFun (cb1_7_2 b) g
    · exact congrFun (cb1_7_3 b) g
    · exact congrFun (cb1_7_4 b) g
    · exact congrFun (cb1_7_5 b) g
    · exact congrFun (cb1_7_6 b) g
    · exact congrFun (cb1_7_7 b) g
theorem chU1 (b : Bool) (g : Rg) (m : Mem) {k : Nat} (hk : k ≤ 7) : instrM 5 2 (tickM (X1 (z b g) 203) (64 * 1 + 8 * (k : Int) + 6) 0).1 m = some (3, ofR (z b { g with F := bitFv k (m (pk16 (hlM g))) g.F, PC := nxt (nxt g.PC) }), m) := by
  have hc : k = 0 ∨ k = 1 ∨ k = 2 ∨ k = 3 ∨ k = 4 ∨ k = 5 ∨ k = 6 ∨ k = 7 := by omega
  rcases hc with rfl | rfl | rfl | rfl | rfl | rfl | rfl | rfl
  · exact congrFun (congrFun (ch1_0 b) g) m
  · exact congrFun (congrFun (ch1_1 b) g) m
  · exact congrFun (congrFun (ch1_2 b) g) m
  · exact congrFun (congrFun (ch1_3 b) g) m
  · exact congrFun (congrFun (ch1_4 b) g) m
  · exact congrFun (congrFun (ch1_5 b) g) m
  · exact congrFun (congrFun (ch1_6 b) g) m
  · exact congrFun (congrFun (ch1_7 b) g) m
theorem mid1_0 : (fun b g => (tickM (X1 (z b g) 203) (64 * 1 + 8 * ((0 : Nat) : Int) + 6) 0).1.mid) = (fun b g => true) := by kernel_rfl
theorem mid1_1 : (fun b g => (tickM (X1 (z b g) 203) (64 * 1 + 8 * ((1 : Nat) : Int) + 6) 0).1.mid) = (fun b g => true) := by kernel_rfl
theorem mid1_2 : (fun b g => (tickM (X1 (z b g) 203) (64 * 1 + 8 * ((2 : Nat) : Int) + 6) 0).1.mid) = (fun b g => true) := by kernel_rfl
theorem mid1_3 : (fun b g => (tickM (X1 (z b g) 203) (64 * 1 + 8 * ((3 : Nat) : Int) + 6) 0).1.mid) = (fun b g => true) := by kernel_rfl
theorem mid1_4 : (fun b g => (tickM (X1 (z b g) 203) (64 * 1 + 8 * ((4 : Nat) : Int) + 6) 0).1.mid) = (fun b g => true) := by kernel_rfl
theorem mid1_5 : (fun b g => (tickM (X1 (z b g) 203) (64 * 1 + 8 * ((5 : Nat) : Int) + 6) 0).1.mid) = (fun b g => true) := by kernel_rfl
theorem mid1_6 : (fun b g => (tickM (X1 (z b g) 203) (64 * 1 + 8 * ((6 : Nat) : Int) + 6) 0).1.mid) = (fun b g => true) := by kernel_rfl
theorem mid1_7 : (fun b g => (tickM (X1 (z b g) 203) (64 * 1 + 8 * ((7 : Nat) : Int) + 6) 0).1.mid) = (fun b g => true) := by kernel_rfl
theorem midU1 (b : Bool) (g : Rg) {k : Nat} (hk : k ≤ 7) : (tickM (X1 (z b g) 203) (64 * 1 + 8 * (k : Int) + 6) 0).1.mid = true := by
  have hc : k = 0 ∨ k = 1 ∨ k = 2 ∨ k = 3 ∨ k = 4 ∨ k = 5 ∨ k = 6 ∨ k = 7 := by omega
  rcases hc with rfl | rfl | rfl | rfl | rfl | rfl | rfl | rfl
  · exact congrFun (congrFun mid1_0 b) g
  · exact congrFun (congrFun mid1_1 b) g
  · exact congrFun (congrFun mid1_2 b) g
  · exact congrFun (congrFun mid1_3 b) g
  · exact congrFun (congrFun mid1_4 b) g
  · exact congrFun (congrFun mid1_5 b) g
  · exact congrFun (congrFun mid1_6 b) g
  · exact congrFun (congrFun mid1_7 b) g
theorem cbU2 (b : Bool) (g : Rg) {k n : Nat} (hk : k ≤ 7) (hn : n ≤ 7) (h6 : n ≠ 6) : (tickM (X1 (z b g) 203) (64 * 2 + 8 * (k : Int) + (n : Int)) 0).1 = ofR (z b (setR { g with PC := nxt (nxt g.PC) } n (resV k (getR g n)))) := by
  have hd : n = 0 ∨ n = 1 ∨ n = 2 ∨ n = 3 ∨ n = 4 ∨ n = 5 ∨ n = 7 := by omega
  rcases hd with rfl | rfl | rfl | rfl | rfl | rfl | rfl
  · have hc : k = 0 ∨ k = 1 ∨ k = 2 ∨ k = 3 ∨ k = 4 ∨ k = 5 ∨ k = 6 ∨ k = 7 := by omega
    rcases hc with rfl | rfl | rfl | rfl | rfl | rfl | rfl | rfl
    · exact congrFun (cb2_0_0 b) g
    · exact congrFun (cb2_0_1 b) g
    · exact congrFun (cb2_0_2 b) g
    · exact congrFun (cb2_0_3 b) g
    · exact congrFun (cb2_0_4 b) g
    · exact congrFun (cb2_0_5 b) g
    · exact congrFun (cb2_0_6 b) g
    · exact congrFun (cb2_0_7 b) g
  · have hc : k = 0 ∨ k = 1 ∨ k = 2 ∨ k = 3 ∨ k = 4 ∨ k = 5 ∨ k = 6 ∨ k = 7 := by omega
    rcases hc with rfl | rfl | rfl | rfl | rfl | rfl | rfl | rfl
    · exact congrFun (cb2_1_0 b) g
    · exact congrFun (cb2_1_1 b) g
    · exact congrFun (cb2_1_2 b) g
    · exact congrFun (cb2_1_3 b) g
    · exact congrFun (cb2_1_4 b) g
    · exact congrFun (cb2_1_5 b) g
    · exact congrFun (cb2_1_6 b) g
    · exact congrFun (cb2_1_7 b) g
  · have hc : k = 0 ∨ k = 1 ∨ k = 2 ∨ k = 3 ∨ k = 4 ∨ k = 5 ∨ k = 6 ∨ k = 7 := by omega
    rcases hc with rfl | rfl | rfl | rfl | rfl | rfl | rfl | rfl
    · exact congrFun (cb2_2_0 b) g
    · exact congrFun (cb2_2_1 b) g
    · exact congrFun (cb2_2_2 b) g
    · exact congrFun (cb2_2_3 b) g
    · exact congrFun (cb2_2_4 b) g
    · exact congrFun (cb2_2_5 b) g
    · exact congrFun (cb2_2_6 b) g
    · exact congrFun (cb2_2_7 b) g
  · have hc : k = 0 ∨ k = 1 ∨ k = 2 ∨ k = 3 ∨ k = 4 ∨ k = 5 ∨ k = 6 ∨ k = 7 := by omega
    rcases hc with rfl | rfl | rfl | rfl | rfl | rfl | rfl | rfl
    · exact congrFun (cb2_3_0 b) g
    · exact congrFun (cb2_3_1 b) g
    · exact congrFun (cb2_3_2 b) g
    · exact congrFun (cb2_3_3 b) g
    · exact congrFun (cb2_3_4 b) g
    · exact congrFun (cb2_3_5 b) g
    · exact congrFun (cb2_3_6 b) g
    · exact congrFun (cb2_3_7 b) g
  · have hc : k = 0 ∨ k = 1 ∨ k = 2 ∨ k = 3 ∨ k = 4 ∨ k = 5 ∨ k = 6 ∨ k = 7 := by omega
    rcases hc with rfl | rfl | rfl | rfl | rfl | rfl | rfl | rfl
    · exact congrFun (cb2_4_0 b) g
    · exact congrFun (cb2_4_1 b) g
    · exact congrFun (cb2_4_2 b) g
    · exact congrFun (cb2_4_3 b) g
    · exact congrFun (cb2_4_4 b) g
    · exact congrFun (cb2_4_5 b) g
    · exact congrFun (cb2_4_6 b) g
    · exact congrFun (cb2_4_7 b) g
  · have hc : k = 0 ∨ k = 1 ∨ k = 2 ∨ k = 3 ∨ k = 4 ∨ k = 5 ∨ k = 6 ∨ k = 7 := by omega
    rcases hc with rfl | rfl | rfl | rfl | rfl | rfl | rfl | rfl
    · exact congrFun (cb2_5_0 b) g
    · exact congrFun (cb2_5_1 b) g
    · exact congrFun (cb2_5_2 b) g
    · exact congrFun (cb2_5_3 b) g
    · exact congrFun (cb2_5_4 b) g
    · exact congrFun (cb2_5_5 b) g
    · exact congrFun (cb2_5_6 b) g
    · exact congrFun (cb2_5_7 b) g
  · have hc : k = 0 ∨ k = 1 ∨ k = 2 ∨ k = 3 ∨ k = 4 ∨ k = 5 ∨ k = 6 ∨ k = 7 := by omega
    rcases hc with rfl | rfl | rfl | rfl | rfl | rfl | rfl | rfl
    · exact congrFun (cb2_7_0 b) g
    · exact congrFun (cb2_7_1 b) g
    · exact congrFun (cb2_7_2 b) g
    · exact congrFun (cb2_7_3 b) g
    · exact congrFun (cb2_7_4 b) g
    · exact congrFun (cb2_7_5 b) g
    · exact congrFun (cb2_7_6 b) g
    · exact congrFun (cb2_7_7 b) g
theorem chU2 (b : Bool) (g : Rg) (m : Mem) {k : Nat} (hk : k ≤ 7) : instrM 5 2 (tickM (X1 (z b g) 203) (64 * 2 + 8 * (k : Int) + 6) 0).1 m = some (4, ofR (z b { g with PC := nxt (nxt g.PC) }), wrM m (hlM g) (resV k (m (pk16 (hlM g))))) := by
  have hc : k = 0 ∨ k = 1 ∨ k = 2 ∨ k = 3 ∨ k = 4 ∨ k = 5 ∨ k = 6 ∨ k = 7 := by omega
  rcases hc with rfl | rfl | rfl | rfl | rfl | rfl | rfl | rfl
  · exact congrFun (congrFun (ch2_0 b) g) m
  · exact congrFun (congrFun (ch2_1 b) g) m
  · exact congrFun (congrFun (ch2_2 b) g) m
  · exact congrFun (congrFun (ch2_3 b) g) m
  · exact congrFun (congrFun (ch2_4 b) g) m
  · exact congrFun (congrFun (ch2_5 b) g) m
  · exact congrFun (congrFun (ch2_6 b) g) m
  · exact congrFun (congrFun (ch2_7 b) g) m
theorem mid2_0 : (fun b g => (tickM (X1 (z b g) 203) (64 * 2 + 8 * ((0 : Nat) : Int) + 6) 0).1.mid) = (fun b g => true) := by kernel_rfl
theorem mid2_1 : (fun b g => (tickM (X1 (z b g) 203) (64 * 2 + 8 * ((1 : Nat) : Int) + 6) 0).1.mid) = (fun b g => true) := by kernel_rfl
theorem mid2_2 : (fun b g => (tickM (X1 (z b g) 203) (64 * 2 + 8 * ((2 : Nat) : Int) + 6) 0).1.mid) = (fun b g => true) := by kernel_rfl
theorem mid2_3 : (fun b g => (tickM (X1 (z b g) 203) (64 * 2 + 8 * ((3 : Nat) : Int) + 6) 0).1.mid) = (fun b g => true) := by kernel_rfl
theorem mid2_4 : (fun b g => (tickM (X1 (z b g) 203) (64 * 2 + 8 * ((4 : Nat) : Int) + 6) 0).1.mid) = (fun b g => true) := by kernel_rfl
theorem mid2_5 : (fun b g => (tickM (X1 (z b g) 203) (64 * 2 + 8 * ((5 : Nat) : Int) + 6) 0).1.mid) = (fun b g => true) := by kernel_rfl
theorem mid2_6 : (fun b g => (tickM (X1 (z b g) 203) (64 * 2 + 8 * ((6 : Nat) : Int) + 6) 0).1.mid) = (fun b g => true) := by kernel_rfl
theorem mid2_7 : (fun b g => (tickM (X1 (z b g) 203) (64 * 2 + 8 * ((7 : Nat) : Int) + 6) 0).1.mid) = (fun b g => true) := by kernel_rfl
theorem midU2 (b : Bool) (g : Rg) {k : Nat} (hk : k ≤ 7) : (tickM (X1 (z b g) 203) (64 * 2 + 8 * (k : Int) + 6) 0).1.mid = true := by
  have hc : k = 0 ∨ k = 1 ∨ k = 2 ∨ k = 3 ∨ k = 4 ∨ k = 5 ∨ k = 6 ∨ k = 7 := by omega
  rcases hc with rfl | rfl | rfl | rfl | rfl | rfl | rfl | rfl
  · exact congrFun (congrFun mid2_0 b) g
  · exact congrFun (congrFun mid2_1 b) g
  · exact congrFun (congrFun mid2_2 b) g
  · exact congrFun (congrFun mid2_3 b) g
  · exact congrFun (congrFun mid2_4 b) g
  · exact congrFun (congrFun mid2_5 b) g
  · exact congrFun (congrFun mid2_6 b) g
  · exact congrFun (congrFun mid2_7 b) g
theorem cbU3 (b : Bool) (g : Rg) {k n : Nat} (hk : k ≤ 7) (hn : n ≤ 7) (h6 : n ≠ 6) : (tickM (X1 (z b g) 203) (64 * 3 + 8 * (k : Int) + (n : Int)) 0).1 = ofR (z b (setR { g with PC := nxt (nxt g.PC) } n (setV k (getR g n)))) := by
  have hd : n = 0 ∨ n = 1 ∨ n = 2 ∨ n = 3 ∨ n = 4 ∨ n = 5 ∨ n = 7 := by omega
  rcases hd with rfl | rfl | rfl | rfl | rfl | rfl | rfl
  · have hc : k = 0 ∨ k = 1 ∨ k = 2 ∨ k = 3 ∨ k = 4 ∨ k = 5 ∨ k = 6 ∨ k = 7 := by omega
    rcases hc with rfl | rfl | rfl | rfl | rfl | rfl | rfl | rfl
    · exact congrFun (cb3_0_0 b) g
    · exact congrFun (cb3_0_1 b) g
    · exact congrFun (cb3_0_2 b) g
    · exact congrFun (cb3_0_3 b) g
    · exact congrFun (cb3_0_4 b) g
    · exact congrFun (cb3_0_5 b) g
    · exact congrFun (cb3_0_6 b) g
    · exact congrFun (cb3_0_7 b) g
  · have hc : k = 0 ∨ k = 1 ∨ k = 2 ∨ k = 3 ∨ k = 4 ∨ k = 5 ∨ k = 6 ∨ k = 7 := by omega
    rcases hc with rfl | rfl | rfl | rfl | rfl | rfl | rfl | rfl
    · exact congrFun (cb3_1_0 b) g
    · exact congrFun (cb3_1_1 b) g
    · exact congrFun (cb3_1_2 b) g
    · exact congrFun (cb3_1_3 b) g
    · exact congrFun (cb3_1_4 b) g
    · exact congrFun (cb3_1_5 b) g
    · exact congrFun (cb3_1_6 b) g
    · exact congrFun (cb3_1_7 b) g
  · have hc : k = 0 ∨ k = 1 ∨ k = 2 ∨ k = 3 ∨ k = 4 ∨ k = 5 ∨ k = 6 ∨ k = 7 := by omega
    rcases hc with rfl | rfl | rfl | rfl | rfl | rfl | rfl | rfl
    · exact congrFun (cb3_2_0 b) g
    · exact congrFun (cb3_2_1 b) g
    · exact congrFun (cb3_2_2 b) g
    · exact congrFun (cb3_2_3 b) g
    · exact congrFun (cb3_2_4 b) g
    · exact congrFun (cb3_2_5 b) g
    · exact congrFun (cb3_2_6 b) g
    · exact congrFun (cb3_2_7 b) g
  · have hc : k = 0 ∨ k = 1 ∨ k = 2 ∨ k = 3 ∨ k = 4 ∨ k = 5 ∨ k = 6 ∨ k = 7 := by omega
    rcases hc with rfl | rfl | rfl | rfl | rfl | rfl | rfl | rfl
    · exact congrFun (cb3_3_0 b) g
    · exact congrFun (cb3_3_1 b) g
    · exact congrFun (cb3_3_2 b) g
    · exact congrFun (cb3_3_3 b) g
    · exact congrFun (cb3_3_4 b) g
    · exact congrFun (cb3_3_5 b) g
    · exact congrFun (cb3_3_6 b) g
    · exact congrFun (cb3_3_7 b) g
  · have hc : k = 0 ∨ k = 1 ∨ k = 2 ∨ k = 3 ∨ k = 4 ∨ k = 5 ∨ k = 6 ∨ k = 7 := by omega
    rcases hc with rfl | rfl | rfl | rfl | rfl | rfl | rfl | rfl
    · exact congrFun (cb3_4_0 b) g
    · exact congrFun (cb3_4_1 b) g
    · exact congrFun (cb3_4_2 b) g
    · exact congrFun (cb3_4_3 b) g
    · exact congrFun (cb3_4_4 b) g
    · exact congrFun (cb3_4_5 b) g
    · exact congrFun (cb3_4_6 b) g
    · exact congrFun (cb3_4_7 b) g
  · have hc : k = 0 ∨ k = 1 ∨ k = 2 ∨ k = 3 ∨ k = 4 ∨ k = 5 ∨ k = 6 ∨ k = 7 := by omega
    rcases hc with rfl | rfl | rfl | rfl | rfl | rfl | rfl | rfl
    · exact congrFun (cb3_5_0 b) g
    · exact congrFun (cb3_5_1 b) g
    · exact congrFun (cb3_5_2 b) g
    · exact congrFun (cb3_5_3 b) g
    · exact congrFun (cb3_5_4 b) g
    · exact congrFun (cb3_5_5 b) g
    · exact congrFun (cb3_5_6 b) g
    · exact congrFun (cb3_5_7 b) g
  · have hc : k = 0 ∨ k = 1 ∨ k = 2 ∨ k = 3 ∨ k = 4 ∨ k = 5 ∨ k = 6 ∨ k = 7 := by omega
    rcases hc with rfl | rfl | rfl | rfl | rfl | rfl | rfl | rfl
    · exact congrFun (cb3_7_0 b) g
    · exact congrFun (cb3_7_1 b) g
    · exact congrFun (cb3_7_2 b) g
    · exact congrFun (cb3_7_3 b) g
    · exact congrFun (cb3_7_4 b) g
    · exact congrFun (cb3_7_5 b) g
    · exact congrFun (cb3_7_6 b) g
    · exact congrFun (cb3_7_7 b) g
theorem chU3 (b : Bool) (g : Rg) (m : Mem) {k : Nat} (hk : k ≤ 7) : instrM 5 2 (tickM (X1 (z b g) 203) (64 * 3 + 8 * (k : Int) + 6) 0).1 m = some (4, ofR (z b { g with PC := nxt (nxt g.PC) }), wrM m (hlM g) (setV k (m (pk16 (hlM g))))) := by
  have hc : k = 0 ∨ k = 1 ∨ k = 2 ∨ k = 3 ∨ k = 4 ∨ k = 5 ∨ k = 6 ∨ k = 7 := by omega
  rcases hc with rfl | rfl | rfl | rfl | rfl | rfl | rfl | rfl
  · exact congrFun (congrFun (ch3_0 b) g) m
  · exact congrFun (congrFun (ch3_1 b) g) m
  · exact congrFun (congrFun (ch3_2 b) g) m
  · exact congrFun (congrFun (ch3_3 b) g) m
  · exact congrFun (congrFun (ch3_4 b) g) m
  · exact congrFun (congrFun (ch3_5 b) g) m
  · exact congrFun (congrFun (ch3_6 b) g) m
  · exact congrFun (congrFun (ch3_7 b) g) m
theorem mid3_0 : (fun b g => (tickM (X1 (z b g) 203) (64 * 3 + 8 * ((0 : Nat) : Int) + 6) 0).1.mid) = (fun b g => true) := by kernel_rfl
theorem mid3_1 : (fun b g => (tickM (X1 (z b g) 203) (64 * 3 + 8 * ((1 : Nat) : Int) + 6) 0).1.mid) = (fun b g => true) := by kernel_rfl
theorem mid3_2 : (fun b g => (tickM (X1 (z b g) 203) (64 * 3 + 8 * ((2 : Nat) : Int) + 6) 0).1.mid) = (fun b g => true) := by kernel_rfl
theorem mid3_3 : (fun b g => (tickM (X1 (z b g) 203) (64 * 3 + 8 * ((3 : Nat) : Int) + 6) 0).1.mid) = (fun b g => true) := by kernel_rfl
theorem mid3_4 : (fun b g => (tickM (X1 (z b g) 203) (64 * 3 + 8 * ((4 : Nat) : Int) + 6) 0).1.mid) = (fun b g => true) := by kernel_rfl
theorem mid3_5 : (fun b g => (tickM (X1 (z b g) 203) (64 * 3 + 8 * ((5 : Nat) : Int) + 6) 0).1.mid) = (fun b g => true) := by kernel_rfl
theorem mid3_6 : (fun b g => (tickM (X1 (z b g) 203) (64 * 3 + 8 * ((6 : Nat) : Int) + 6) 0).1.mid) = (fun b g => true) := by kernel_rfl
theorem mid3_7 : (fun b g => (tickM (X1 (z b g) 203) (64 * 3 + 8 * ((7 : Nat) : Int) + 6) 0).1.mid) = (fun b g => true) := by kernel_rfl
theorem midU3 (b : Bool) (g : Rg) {k : Nat} (hk : k ≤ 7) : (tickM (X1 (z b g) 203) (64 * 3 + 8 * (k : Int) + 6) 0).1.mid = true := by
  have hc : k = 0 ∨ k = 1 ∨ k = 2 ∨ k = 3 ∨ k = 4 ∨ k = 5 ∨ k = 6 ∨ k = 7 := by omega
  rcases hc with rfl | rfl | rfl | rfl | rfl | rfl | rfl | rfl
  · exact congrFun (congrFun mid3_0 b) g
  · exact congrFun (congrFun mid3_1 b) g
  · exact congrFun (congrFun mid3_2 b) g
  · exact congrFun (congrFun mid3_3 b) g
  · exact congrFun (congrFun mid3_4 b) g
  · exact congrFun (congrFun mid3_5 b) g
  · exact congrFun (congrFun mid3_6 b) g
  · exact congrFun (congrFun mid3_7 b) g
end Go.Proofs.YtmlfmkebljdoiaaGreatDoor
