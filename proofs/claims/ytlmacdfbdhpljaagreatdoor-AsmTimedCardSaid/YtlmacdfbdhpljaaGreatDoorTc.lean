/- Own text: AsmTimed. -/
import Derived.Test.YtlmacdfbdhpljaaGreatDoorTb0
import Derived.Test.YtlmacdfbdhpljaaGreatDoorTb1
import Derived.Test.YtlmacdfbdhpljaaGreatDoorTb2
import Derived.Test.YtlmacdfbdhpljaaGreatDoorTb3
import Derived.Test.YtlmacdfbdhpljaaGreatDoorLw
namespace Go.Proofs.YtlmacdfbdhpljaaGreatDoor
open Go.Ev Go.Ev.Tr Go.Proofs
set_option maxRecDepth 1000000
theorem tm1All (s t o : Int) (k : Nat) (hk : k < 256) : tm1B s t o k = true := by
  by_cases h0 : k < 16
  · have := allN_get (tm0_0 s t o) (k - 0) (by omega)
    rwa [show 0 + (k - 0) = k by omega] at this
  by_cases h1 : k < 32
  · have := allN_get (tm0_1 s t o) (k - 16) (by omega)
    rwa [show 16 + (k - 16) = k by omega] at this
  by_cases h2 : k < 48
  · have := allN_get (tm0_2 s t o) (k - 32) (by omega)
    rwa [show 32 + (k - 32) = k by omega] at this
  by_cases h3 : k < 64
  · have := allN_get (tm0_3 s t o) (k - 48) (by omega)
    rwa [show 48 + (k - 48) = k by omega] at this
  by_cases h4 : k < 80
  · have := allN_get (tm0_4 s t o) (k - 64) (by omega)
    rwa [show 64 + (k - 64) = k by omega] at this
  by_cases h5 : k < 96
  · have := allN_get (tm0_5 s t o) (k - 80) (by omega)
    rwa [show 80 + (k - 80) = k by omega] at this
  by_cases h6 : k < 112
  · have := allN_get (tm0_6 s t o) (k - 96) (by omega)
    rwa [show 96 + (k - 96) = k by omega] at this
  by_cases h7 : k < 128
  · have := allN_get (tm0_7 s t o) (k - 112) (by omega)
    rwa [show 112 + (k - 112) = k by omega] at this
  by_cases h8 : k < 144
  · have := allN_get (tm1_0 s t o) (k - 128) (by omega)
    rwa [show 128 + (k - 128) = k by omega] at this
  by_cases h9 : k < 160
  · have := allN_get (tm1_1 s t o) (k - 144) (by omega)
    rwa [show 144 + (k - 144) = k by omega] at this
  by_cases h10 : k < 176
  · have := allN_get (tm1_2 s t o) (k - 160) (by omega)
    rwa [show 160 + (k - 160) = k by omega] at this
  by_cases h11 : k < 192
  · have := allN_get (tm1_3 s t o) (k - 176) (by omega)
    rwa [show 176 + (k - 176) = k by omega] at this
  by_cases h12 : k < 208
  · have := allN_get (tm1_4 s t o) (k - 192) (by omega)
    rwa [show 192 + (k - 192) = k by omega] at this
  by_cases h13 : k < 224
  · have := allN_get (tm1_5 s t o) (k - 208) (by omega)
    rwa [show 208 + (k - 208) = k by omega] at this
  by_cases h14 : k < 240
  · have := allN_get (tm1_6 s t o) (k - 224) (by omega)
    rwa [show 224 + (k - 224) = k by omega] at this
  by_cases h15 : k < 256
  · have := allN_get (tm1_7 s t o) (k - 240) (by omega)
    rwa [show 240 + (k - 240) = k by omega] at this
  omega
theorem tm2All (t o : Int) (k : Nat) (hk : k < 256) : tm2B t o k = true := by
  by_cases h0 : k < 16
  · have := allN_get (tm2_0 t o) (k - 0) (by omega)
    rwa [show 0 + (k - 0) = k by omega] at this
  by_cases h1 : k < 32
  · have := allN_get (tm2_1 t o) (k - 16) (by omega)
    rwa [show 16 + (k - 16) = k by omega] at this
  by_cases h2 : k < 48
  · have := allN_get (tm2_2 t o) (k - 32) (by omega)
    rwa [show 32 + (k - 32) = k by omega] at this
  by_cases h3 : k < 64
  · have := allN_get (tm2_3 t o) (k - 48) (by omega)
    rwa [show 48 + (k - 48) = k by omega] at this
  by_cases h4 : k < 80
  · have := allN_get (tm2_4 t o) (k - 64) (by omega)
    rwa [show 64 + (k - 64) = k by omega] at this
  by_cases h5 : k < 96
  · have := allN_get (tm2_5 t o) (k - 80) (by omega)
    rwa [show 80 + (k - 80) = k by omega] at this
  by_cases h6 : k < 112
  · have := allN_get (tm2_6 t o) (k - 96) (by omega)
    rwa [show 96 + (k - 96) = k by omega] at this
  by_cases h7 : k < 128
  · have := allN_get (tm2_7 t o) (k - 112) (by omega)
    rwa [show 112 + (k - 112) = k by omega] at this
  by_cases h8 : k < 144
  · have := allN_get (tm3_0 t o) (k - 128) (by omega)
    rwa [show 128 + (k - 128) = k by omega] at this
  by_cases h9 : k < 160
  · have := allN_get (tm3_1 t o) (k - 144) (by omega)
    rwa [show 144 + (k - 144) = k by omega] at this
  by_cases h10 : k < 176
  · have := allN_get (tm3_2 t o) (k - 160) (by omega)
    rwa [show 160 + (k - 160) = k by omega] at this
  by_cases h11 : k < 192
  · have := allN_get (tm3_3 t o) (k - 176) (by omega)
    rwa [show 176 + (k - 176) = k by omega] at this
  by_cases h12 : k < 208
  · have := allN_get (tm3_4 t o) (k - 192) (by omega)
    rwa [show 192 + (k - 192) = k by omega] at this
  by_cases h13 : k < 224
  · have := allN_get (tm3_5 t o) (k - 208) (by omega)
    rwa [show 208 + (k - 208) = k by omega] at this
  by_cases h14 : k < 240
  · have := allN_get (tm3_6 t o) (k - 224) (by omega)
    rwa [show 224 + (k - 224) = k by omega] at this
  by_cases h15 : k < 256
  · have := allN_get (tm3_7 t o) (k - 240) (by omega)
    rwa [show 240 + (k - 240) = k by omega] at this
  omega
theorem timed_called {W : World} (hL : laidMetH Tryz.prog laidL W) (hsh : W.ShapedOpen Tryz.prog) (a b c o : Int) (ha : InU8 a) (hb : InU8 b) (hc : InU8 c) (ho : In64 o) :
    Calls Tryz.prog 6 #[.int .u8 a, .int .u8 b, .int .u8 c, .int .i64 o] W fun e W' => e = .returned (.bool true) ∧ W.keptBut W' (fun _ => False) := by
  obtain ⟨k, rfl⟩ := Int.eq_ofNat_of_zero_le ha.1
  have hk : k < 256 := by have := ha.2; omega
  have vc : VRs ren0 [u8a c, i64a o] [.int .u8 c, .int .i64 o] := ⟨_, _, rfl, int_VR hc.1 hc.2, _, _, rfl, int_VR ho.1 ho.2, rfl⟩
  have vb : VRs ren0 [u8a b, u8a c, i64a o] [.int .u8 b, .int .u8 c, .int .i64 o] := ⟨_, _, rfl, int_VR hb.1 hb.2, vc⟩
  cases hs : spec k with
  | false =>
    have h := tm1All b c o k hk
    unfold tm1B at h
    rw [hs, Bool.false_or] at h
    exact lawEnd smT_ok (allTrue_run h) hL hsh ⟨_, _, rfl, lit_VR, vb⟩
  | true =>
    simp only [spec, Bool.or_eq_true] at hs
    rcases hs with h | h | h | h <;> have h := Nat.eq_of_beq_eq_true h <;> subst h
    · by_cases h0 : b = 0
      · subst h0
        exact lawEnd smT_ok (tm_16a c o) hL hsh ⟨_, _, rfl, lit_VR, _, _, rfl, lit_VR, vc⟩
      · exact lawEnd smT_ok (tm_16b b c o) hL hsh ⟨_, _, rfl, lit_VR, _, _, rfl, int_VR (by have := hb.1; omega) hb.2, vc⟩
    · obtain ⟨m, rfl⟩ := Int.eq_ofNat_of_zero_le hb.1
      have hm : m < 256 := by have := hb.2; omega
      exact lawEnd smT_ok (allTrue_run (tm2All c o m hm)) hL hsh ⟨_, _, rfl, lit_VR, _, _, rfl, lit_VR, vc⟩
    · exact lawEnd smT_ok (tm_232 b c o) hL hsh ⟨_, _, rfl, lit_VR, vb⟩
    · exact lawEnd smT_ok (tm_248 b c o) hL hsh ⟨_, _, rfl, lit_VR, vb⟩
end Go.Proofs.YtlmacdfbdhpljaaGreatDoor
