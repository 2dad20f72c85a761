/- Own text: AsmInfo. -/
import Derived.Test.YtlmacdfbdhpljaaGreatDoorSr1
import Derived.Test.YtlmacdfbdhpljaaGreatDoorSr2
import Derived.Test.YtlmacdfbdhpljaaGreatDoorSr3
import Derived.Test.YtlmacdfbdhpljaaGreatDoorLw
namespace Go.Proofs.YtlmacdfbdhpljaaGreatDoor
open Go.Ev Go.Ev.Tr Go.Proofs
set_option maxRecDepth 1000000
theorem infF  (k : Nat) (hk : k < 256) : infB false k = true := by
  by_cases h0 : k < 16
  · have := allN_get inf0_0 (k - 0) (by omega)
    rwa [show 0 + (k - 0) = k by omega] at this
  by_cases h1 : k < 32
  · have := allN_get inf0_1 (k - 16) (by omega)
    rwa [show 16 + (k - 16) = k by omega] at this
  by_cases h2 : k < 48
  · have := allN_get inf0_2 (k - 32) (by omega)
    rwa [show 32 + (k - 32) = k by omega] at this
  by_cases h3 : k < 64
  · have := allN_get inf0_3 (k - 48) (by omega)
    rwa [show 48 + (k - 48) = k by omega] at this
  by_cases h4 : k < 80
  · have := allN_get inf0_4 (k - 64) (by omega)
    rwa [show 64 + (k - 64) = k by omega] at this
  by_cases h5 : k < 96
  · have := allN_get inf0_5 (k - 80) (by omega)
    rwa [show 80 + (k - 80) = k by omega] at this
  by_cases h6 : k < 112
  · have := allN_get inf0_6 (k - 96) (by omega)
    rwa [show 96 + (k - 96) = k by omega] at this
  by_cases h7 : k < 128
  · have := allN_get inf0_7 (k - 112) (by omega)
    rwa [show 112 + (k - 112) = k by omega] at this
  by_cases h8 : k < 144
  · have := allN_get inf1_0 (k - 128) (by omega)
    rwa [show 128 + (k - 128) = k by omega] at this
  by_cases h9 : k < 160
  · have := allN_get inf1_1 (k - 144) (by omega)
    rwa [show 144 + (k - 144) = k by omega] at this
  by_cases h10 : k < 176
  · have := allN_get inf1_2 (k - 160) (by omega)
    rwa [show 160 + (k - 160) = k by omega] at this
  by_cases h11 : k < 192
  · have := allN_get inf1_3 (k - 176) (by omega)
    rwa [show 176 + (k - 176) = k by omega] at this
  by_cases h12 : k < 208
  · have := allN_get inf1_4 (k - 192) (by omega)
    rwa [show 192 + (k - 192) = k by omega] at this
  by_cases h13 : k < 224
  · have := allN_get inf1_5 (k - 208) (by omega)
    rwa [show 208 + (k - 208) = k by omega] at this
  by_cases h14 : k < 240
  · have := allN_get inf1_6 (k - 224) (by omega)
    rwa [show 224 + (k - 224) = k by omega] at this
  by_cases h15 : k < 256
  · have := allN_get inf1_7 (k - 240) (by omega)
    rwa [show 240 + (k - 240) = k by omega] at this
  omega
theorem infT  (k : Nat) (hk : k < 256) : infB true k = true := by
  by_cases h0 : k < 16
  · have := allN_get inf2_0 (k - 0) (by omega)
    rwa [show 0 + (k - 0) = k by omega] at this
  by_cases h1 : k < 32
  · have := allN_get inf2_1 (k - 16) (by omega)
    rwa [show 16 + (k - 16) = k by omega] at this
  by_cases h2 : k < 48
  · have := allN_get inf2_2 (k - 32) (by omega)
    rwa [show 32 + (k - 32) = k by omega] at this
  by_cases h3 : k < 64
  · have := allN_get inf2_3 (k - 48) (by omega)
    rwa [show 48 + (k - 48) = k by omega] at this
  by_cases h4 : k < 80
  · have := allN_get inf2_4 (k - 64) (by omega)
    rwa [show 64 + (k - 64) = k by omega] at this
  by_cases h5 : k < 96
  · have := allN_get inf2_5 (k - 80) (by omega)
    rwa [show 80 + (k - 80) = k by omega] at this
  by_cases h6 : k < 112
  · have := allN_get inf2_6 (k - 96) (by omega)
    rwa [show 96 + (k - 96) = k by omega] at this
  by_cases h7 : k < 128
  · have := allN_get inf2_7 (k - 112) (by omega)
    rwa [show 112 + (k - 112) = k by omega] at this
  by_cases h8 : k < 144
  · have := allN_get inf3_0 (k - 128) (by omega)
    rwa [show 128 + (k - 128) = k by omega] at this
  by_cases h9 : k < 160
  · have := allN_get inf3_1 (k - 144) (by omega)
    rwa [show 144 + (k - 144) = k by omega] at this
  by_cases h10 : k < 176
  · have := allN_get inf3_2 (k - 160) (by omega)
    rwa [show 160 + (k - 160) = k by omega] at this
  by_cases h11 : k < 192
  · have := allN_get inf3_3 (k - 176) (by omega)
    rwa [show 176 + (k - 176) = k by omega] at this
  by_cases h12 : k < 208
  · have := allN_get inf3_4 (k - 192) (by omega)
    rwa [show 192 + (k - 192) = k by omega] at this
  by_cases h13 : k < 224
  · have := allN_get inf3_5 (k - 208) (by omega)
    rwa [show 208 + (k - 208) = k by omega] at this
  by_cases h14 : k < 240
  · have := allN_get inf3_6 (k - 224) (by omega)
    rwa [show 224 + (k - 224) = k by omega] at this
  by_cases h15 : k < 256
  · have := allN_get inf3_7 (k - 240) (by omega)
    rwa [show 240 + (k - 240) = k by omega] at this
  omega
theorem infLow (c : Int) (b : Bool) : trueB (callA sm1 noRO 16 [.int .i64 ⟨c, -9223372036854775808, -1⟩, .sbool b] (startHp 6 1000000)).run = true := by kernel_rfl
theorem infHigh (c : Int) (b : Bool) : trueB (callA sm1 noRO 16 [.int .i64 ⟨c, 256, 9223372036854775807⟩, .sbool b] (startHp 6 1000000)).run = true := by kernel_rfl
def isBoolV : V → Bool
  | .bool _ => true
  | .sbool _ => true
  | _ => false
theorem isBoolV_some {ρ : Ren} {v : V} {x : Value} (h : isBoolV v = true) (hx : VR ρ v x) : ∃ b, x = .bool b := by
  cases v <;> simp only [isBoolV, Bool.false_eq_true] at h
  · exact ⟨_, hx⟩
  · exact ⟨_, hx⟩
def infArgs : List V → Bool
  | [.int k i, b] => decide (k = .i64) && ile (-9223372036854775808) i.lo && ile i.hi 9223372036854775807 && isBoolV b
  | _ => false
theorem inf_at : SumAt 16 (trueSum infArgs) := trueSum_at sm1_ok fun args ha ρ l hl => by
  unfold infArgs at ha
  split at ha <;> try (cases ha; done)
  rename_i k i b
  simp only [Bool.and_eq_true, decide_eq_true_eq, ile_iff] at ha
  obtain ⟨⟨⟨rfl, h1⟩, h2⟩, h3⟩ := ha
  obtain ⟨x, xs, rfl, ⟨n, rfl, hn⟩, y, ys, rfl, hy, hnil⟩ := hl
  have e : ys = [] := hnil
  subst e
  obtain ⟨bb, rfl⟩ := isBoolV_some h3 hy
  have := hn.2
  by_cases hlo : n < 0
  · exact ⟨[.int .i64 ⟨n, -9223372036854775808, -1⟩, .sbool bb], rfl, ⟨_, _, rfl, int_VR (by omega) (by omega), _, _, rfl, rfl, rfl⟩, infLow n bb⟩
  · by_cases hhi : n < 256
    · obtain ⟨k, rfl⟩ := Int.eq_ofNat_of_zero_le (show 0 ≤ n by omega)
      refine ⟨[.int .i64 (I.lit (k : Int)), .bool bb], rfl, ⟨_, _, rfl, lit_VR, _, _, rfl, rfl, rfl⟩, ?_⟩
      cases bb with
      | false => exact infF k (by omega)
      | true => exact infT k (by omega)
    · exact ⟨[.int .i64 ⟨n, 256, 9223372036854775807⟩, .sbool bb], rfl, ⟨_, _, rfl, int_VR (by omega) (by omega), _, _, rfl, rfl, rfl⟩, infHigh n bb⟩
noncomputable def smI (f : Nat) : Option Summ := match Nat.beq f 15 with
  | true => some (trueSum noArgs)
  | false => match Nat.beq f 16 with
    | true => some (trueSum infArgs)
    | false => sm1 f
theorem smI_ok : ∀ f s, smI f = some s → SumAt f s := sm_cons (sm_cons sm1_ok inf_at) awake_at
theorem info_run (c : Int) (b : Bool) : T.all leafT' (callA smI noRO 3 [i64a c, .sbool b] (startHp 6 1000000)) = true := by kernel_rfl
theorem info_called {W : World} (_ : laidMetH Tryz.prog laidS W) (_ : W.ShapedOpen Tryz.prog) (c : Int) (b : Bool) (hc : In64 c) :
    Calls Tryz.prog 3 #[.int .i64 c, .bool b] W fun e W' => e = .returned (.bool true) ∧ W.keptBut W' (fun _ => False) :=
  lawEndN smI_ok (allTrue_run (info_run c b)) ⟨_, _, rfl, int_VR hc.1 hc.2, _, _, rfl, rfl, rfl⟩
end Go.Proofs.YtlmacdfbdhpljaaGreatDoor
