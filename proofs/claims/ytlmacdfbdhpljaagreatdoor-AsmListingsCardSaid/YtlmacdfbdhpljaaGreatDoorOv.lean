/- Own text: what an instruction at the front of some bytes is; both say the same. -/
import Derived.Test.YtlmacdfbdhpljaaGreatDoorOs
import Derived.Test.YtlmacdfbdhpljaaGreatDoorOc
namespace Go.Proofs.YtlmacdfbdhpljaaGreatDoor
open Go.Ev Go.Ev.Tr Go.Proofs
set_option maxRecDepth 1000000
/-! ### with a sign -/
def preA : List UInt8 := [97, 100, 100, 32, 115, 112, 44, 32]
def preL : List UInt8 := [108, 100, 32, 104, 108, 44, 32, 115, 112, 43]
def chN (l : List UInt8) : List Int := l.map fun c => (c.toNat : Int)
def sgX (pre : List UInt8) (cy X : Int) : Option (Option Ins) := bif decide (pre.length + (Lib.itoa X).length ≤ 281474976710656) then bif decide ((pre ++ Lib.itoa X).length + 0 ≤ 281474976710656) then some (some (chN ((pre ++ Lib.itoa X) ++ []), 2, cy, cy)) else none else none
def sgIns (pre : List UInt8) (cy X : Int) : Ins := (chN (pre ++ Lib.itoa X), 2, cy, cy)
theorem sgX_some {pre : List UInt8} {cy X : Int} (hp : pre.length ≤ 10) (h0 : -128 ≤ X) (h1 : X ≤ 255) : sgX pre cy X = some (some (sgIns pre cy X)) := by
  have := Lib.itoa_length_le X (by omega) (by omega)
  unfold sgX
  rw [decide_eq_true (by omega), decide_eq_true (by rw [List.length_append]; omega), List.append_nil]; rfl
theorem sgA232 (b1 len org : Int) : (oneR [I.lit 232, byI b1] (lenG 2 len) org).run = sgX preA 16 (IntKind.i8.wrap b1) := by kernel_rfl
theorem sgA248 (b1 len org : Int) : (oneR [I.lit 248, byI b1] (lenG 2 len) org).run = sgX preL 12 (IntKind.i8.wrap b1) := by kernel_rfl
theorem sgR232t (b1 len org : Int) : (signR [I.lit 232, halI true b1] (lenG 2 len) org).run = sgX preA 16 (b1 - 256) := by kernel_rfl
theorem sgR232f (b1 len org : Int) : (signR [I.lit 232, halI false b1] (lenG 2 len) org).run = sgX preA 16 b1 := by kernel_rfl
theorem sgR248t (b1 len org : Int) : (signR [I.lit 248, halI true b1] (lenG 2 len) org).run = sgX preL 12 (b1 - 256) := by kernel_rfl
theorem sgR248f (b1 len org : Int) : (signR [I.lit 248, halI false b1] (lenG 2 len) org).run = sgX preL 12 b1 := by kernel_rfl
theorem r1_16 (org : Int) : (toldR [I.lit 16] (I.lit 1) org).run = some (some (dbTx 16)) := by kernel_rfl
theorem r1_203 (org : Int) : (toldR [I.lit 203] (I.lit 1) org).run = some (some (dbTx 203)) := by kernel_rfl
theorem r1_232 (org : Int) : (toldR [I.lit 232] (I.lit 1) org).run = some (some (dbTx 232)) := by kernel_rfl
theorem r1_248 (org : Int) : (toldR [I.lit 248] (I.lit 1) org).run = some (some (dbTx 248)) := by kernel_rfl
theorem r2_16a (len org : Int) : (toldR [I.lit 16, I.lit 0] (lenG 2 len) org).run = some (some (insT (tmA 16) 0 0 org)) := by kernel_rfl
theorem r2_16b (b len org : Int) : (toldR [I.lit 16, ⟨b, 1, 255⟩] (lenG 2 len) org).run = some (some (dbTx 16)) := by kernel_rfl
/-! ### the two writings of an argument -/
theorem wrap8 {b : Int} (h0 : 0 ≤ b) (h1 : b ≤ 255) : IntKind.i8.wrap b = halV (decide (128 ≤ b)) b := by
  unfold IntKind.wrap halV
  simp only [show ((2 : Int) ^ IntKind.i8.bits) = 256 from rfl, show ((2 : Int) ^ (IntKind.i8.bits - 1)) = 128 from rfl, show IntKind.i8.signed = true from rfl, Bool.true_and, decide_eq_true_eq]
  by_cases h : 128 ≤ b
  · rw [if_pos (by omega), decide_eq_true h]; simp only; omega
  · rw [if_neg (by omega), decide_eq_false h]; simp only; omega
theorem wordA_eq {b1 b2 : Int} (h0 : 0 ≤ b1) (h1 : b1 ≤ 255) (h2 : 0 ≤ b2) (_ : b2 ≤ 255) : wordA b1 b2 = b1 + 256 * b2 := by
  unfold wordA
  obtain ⟨m, rfl⟩ := Int.eq_ofNat_of_zero_le h0
  obtain ⟨n, rfl⟩ := Int.eq_ofNat_of_zero_le h2
  have e : ((n : Int) * 256).toNat = 2 ^ 8 * n := by omega
  rw [Int.toNat_natCast, e]
  have hm : m < 2 ^ 8 := by omega
  have : m.lor (2 ^ 8 * n) = 2 ^ 8 * n + m := by
    show m ||| (2 ^ 8 * n) = _
    rw [Nat.or_comm, Nat.two_pow_add_eq_or_of_lt hm]
  rw [this]
  omega
theorem argTx_eq {a : Nat} {b1 b2 behind : Int} (h0 : 0 ≤ b1) (h1 : b1 ≤ 255) (h2 : 0 ≤ b2) (h3 : b2 ≤ 255) : argTxR (decide (128 ≤ b1)) a b1 b2 behind = argTx a b1 b2 behind := by
  match a with
  | 0 => rfl
  | 1 => rfl
  | 2 => rfl
  | 3 => rfl
  | 4 =>
    show 36 :: hxL4 ((behind + halV (decide (128 ≤ b1)) b1 + 65536) % 65536) = 36 :: hxL4 ((behind + IntKind.i8.wrap b1) % 65536)
    rw [wrap8 h0 h1, show (behind + halV (decide (128 ≤ b1)) b1 + 65536) % 65536 = (behind + halV (decide (128 ≤ b1)) b1) % 65536 by omega]
  | 5 =>
    show 36 :: hxL4 (b1 + 256 * b2) = 36 :: hxL4 (wordA b1 b2)
    rw [wordA_eq h0 h1 h2 h3]
  | _ + 6 => rfl
theorem insLR_eq {k : Nat} {b1 b2 org : Int} (h0 : 0 ≤ b1) (h1 : b1 ≤ 255) (h2 : 0 ≤ b2) (h3 : b2 ≤ 255) : insLR (decide (128 ≤ b1)) k b1 b2 org = insL k b1 b2 org := by
  unfold insLR insL
  have : insTR (decide (128 ≤ b1)) (tmA k) b1 b2 org = insT (tmA k) b1 b2 org := by
    unfold insTR insT
    rw [argTx_eq h0 h1 h2 h3]
  cases Nat.beq (tmA k).2.1 7 with
  | true => rfl
  | false => exact this
/-! ### the instruction -/
def insX (n b0 b1 b2 org : Int) : Ins := match Nat.beq b0.toNat 203 with
  | true => match decide (n < 2) with
    | true => dbTx 203
    | false => insT (tmB b1.toNat) 0 0 org
  | false => match Nat.beq b0.toNat 16 with
    | true => match decide (n < 2) || !(b1 == 0) with
      | true => dbTx 16
      | false => insT (tmA 16) 0 0 org
    | false => match Nat.beq b0.toNat 232 with
      | true => match decide (n < 2) with
        | true => dbTx 232
        | false => sgIns preA 16 (IntKind.i8.wrap b1)
      | false => match Nat.beq b0.toNat 248 with
        | true => match decide (n < 2) with
          | true => dbTx 248
          | false => sgIns preL 12 (IntKind.i8.wrap b1)
        | false => match decide (n < clsI b0.toNat) with
          | true => dbTx b0.toNat
          | false => insL b0.toNat b1 b2 org
/-- The value of it. -/
def txU (l : List Int) : List UInt8 := l.map fun n => UInt8.ofNat n.toNat
def insV (x : Ins) : V := .agg [.ssym (txU x.1), .int .i64 ⟨x.2.1, 1, 3⟩, .int .i64 ⟨x.2.2.1, 0, 24⟩, .int .i64 ⟨x.2.2.2, 0, 24⟩]
structure InsOk (x : Ins) : Prop where
  len : x.1.length ≤ 1000
  b : 1 ≤ x.2.1 ∧ x.2.1 ≤ 3
  c : 0 ≤ x.2.2.1 ∧ x.2.2.1 ≤ 24
  t : 0 ≤ x.2.2.2 ∧ x.2.2.2 ≤ 24
theorem insEnd {t : T (AEnd × Hp)} {x : Ins} (h : (t.bind fun r => T.ret (insOf r)).run = some (some x)) (hx : InsOk x) : ∃ v hp', t.run = some (.ret v, hp') ∧ v.under 0 = true ∧ ∀ (ρ : Ren) y, VR ρ v y → VR ρ (insV x) y := by
  obtain ⟨⟨e, hp⟩, h1, h2⟩ := T.run_bind_some h
  injection h2 with h2
  unfold insOf at h2
  simp only at h2
  split at h2 <;> try contradiction
  · rename_i l a b c
    injection h2 with h2; subst h2
    refine ⟨_, hp, h1, rfl, fun ρ y hy => ?_⟩
    obtain ⟨L, rfl, y0, ys0, rfl, ⟨rfl, hb⟩, y1, ys1, rfl, ⟨m1, rfl, e1⟩, y2, ys2, rfl, ⟨m2, rfl, e2⟩, y3, ys3, rfl, ⟨m3, rfl, e3⟩, hn⟩ := hy
    have q1 := e1.1; have q2 := e2.1; have q3 := e3.1
    have i1 := hx.b; have i2 := hx.c; have i3 := hx.t
    simp only at i1 i2 i3
    refine ⟨_, rfl, _, _, rfl, ⟨?_, ?_⟩, _, _, rfl, ⟨_, rfl, q1, by show (1 : Int) ≤ _; omega, by show _ ≤ (3 : Int); omega⟩, _, _, rfl, ⟨_, rfl, q2, by show (0 : Int) ≤ _; omega, by show _ ≤ (24 : Int); omega⟩, _, _, rfl, ⟨_, rfl, q3, by show (0 : Int) ≤ _; omega, by show _ ≤ (24 : Int); omega⟩, hn⟩
    · simp only [txU, List.map_map]
      rfl
    · have := hx.len
      simp only [txU, List.length_map] at this ⊢
      omega
  · rename_i l a b c
    injection h2 with h2; subst h2
    refine ⟨_, hp, h1, rfl, fun ρ y hy => ?_⟩
    obtain ⟨L, rfl, y0, ys0, rfl, ⟨rfl, hb⟩, y1, ys1, rfl, ⟨m1, rfl, e1⟩, y2, ys2, rfl, ⟨m2, rfl, e2⟩, y3, ys3, rfl, ⟨m3, rfl, e3⟩, hn⟩ := hy
    have q1 := e1.1; have q2 := e2.1; have q3 := e3.1
    have i1 := hx.b; have i2 := hx.c; have i3 := hx.t
    simp only at i1 i2 i3
    refine ⟨_, rfl, _, _, rfl, ⟨?_, ?_⟩, _, _, rfl, ⟨_, rfl, q1, by show (1 : Int) ≤ _; omega, by show _ ≤ (3 : Int); omega⟩, _, _, rfl, ⟨_, rfl, q2, by show (0 : Int) ≤ _; omega, by show _ ≤ (24 : Int); omega⟩, _, _, rfl, ⟨_, rfl, q3, by show (0 : Int) ≤ _; omega, by show _ ≤ (24 : Int); omega⟩, hn⟩
    · simp only [txU, List.map_map]
      have : ((fun n : Int => UInt8.ofNat n.toNat) ∘ fun c : UInt8 => (c.toNat : Int)) = id := by
        funext c
        simp
      rw [this, List.map_id]
    · have := hx.len
      simp only [txU, List.length_map] at this ⊢
      omega
end Go.Proofs.YtlmacdfbdhpljaaGreatDoor
