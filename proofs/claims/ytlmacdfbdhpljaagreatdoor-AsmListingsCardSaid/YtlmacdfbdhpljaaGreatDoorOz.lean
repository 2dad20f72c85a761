/- Own text: a call that tells the instruction at the front of some bytes, in any memory. -/
import Derived.Test.YtlmacdfbdhpljaaGreatDoorOv
namespace Go.Proofs.YtlmacdfbdhpljaaGreatDoor
open Go.Ev Go.Ev.Tr Go.Proofs
set_option maxRecDepth 1000000
/-! ### bounds -/
def tmOk (t : Tm) : Bool := Nat.ble (t.1.length + t.2.2.1.length) 900 && (decide (1 ≤ t.2.2.2.1) && decide (t.2.2.2.1 ≤ 3) && (decide (0 ≤ t.2.2.2.2.1) && decide (t.2.2.2.2.1 ≤ 24) && (decide (0 ≤ t.2.2.2.2.2) && decide (t.2.2.2.2.2 ≤ 24))))
theorem tmA_ok : allN (fun k => tmOk (tmA k)) 256 0 = true := by kernel_rfl
theorem tmB_ok : allN (fun k => tmOk (tmB k)) 256 0 = true := by kernel_rfl
theorem argTx_len (a : Nat) (b1 b2 behind : Int) : (argTx a b1 b2 behind).length ≤ 5 := by
  match a with
  | 0 => exact Nat.zero_le _
  | 1 => exact Nat.le_of_ble_eq_true rfl
  | 2 => exact Nat.le_of_ble_eq_true rfl
  | 3 => exact Nat.zero_le _
  | 4 => exact Nat.le_of_ble_eq_true rfl
  | 5 => exact Nat.le_of_ble_eq_true rfl
  | _ + 6 => exact Nat.zero_le _
theorem insT_ok {t : Tm} (h : tmOk t = true) (b1 b2 org : Int) : InsOk (insT t b1 b2 org) := by
  simp only [tmOk, Bool.and_eq_true, decide_eq_true_eq] at h
  obtain ⟨h0, ⟨h1, h2⟩, ⟨h3, h4⟩, h5, h6⟩ := h
  have h0 := Nat.le_of_ble_eq_true h0
  refine ⟨?_, ⟨h1, h2⟩, ⟨h3, h4⟩, ⟨h5, h6⟩⟩
  have := argTx_len t.2.1 b1 b2 (org + t.2.2.2.1)
  simp only [insT, List.length_append]
  omega
theorem dbTx_ok (k : Int) : InsOk (dbTx k) := ⟨by show 6 ≤ 1000; decide, by show (1 : Int) ≤ 1 ∧ (1 : Int) ≤ 3; decide, by show (0 : Int) ≤ 0 ∧ (0 : Int) ≤ 24; decide, by show (0 : Int) ≤ 0 ∧ (0 : Int) ≤ 24; decide⟩
theorem tmA_at {k : Nat} (h : k < 256) : tmOk (tmA k) = true := by
  have := allN_get tmA_ok k h
  rwa [Nat.zero_add] at this
theorem tmB_at {k : Nat} (h : k < 256) : tmOk (tmB k) = true := by
  have := allN_get tmB_ok k h
  rwa [Nat.zero_add] at this
theorem insL_ok {k : Nat} (h : k < 256) (b1 b2 org : Int) : InsOk (insL k b1 b2 org) := by
  unfold insL
  split
  · exact dbTx_ok _
  · exact insT_ok (tmA_at h) _ _ _
theorem sgIns_ok {pre : List UInt8} {cy X : Int} (hp : pre.length ≤ 10) (h0 : -128 ≤ X) (h1 : X ≤ 255) (hc : 0 ≤ cy ∧ cy ≤ 24) : InsOk (sgIns pre cy X) := by
  refine ⟨?_, by show (1 : Int) ≤ 2 ∧ (2 : Int) ≤ 3; decide, hc, hc⟩
  have := Lib.itoa_length_le X (by omega) (by omega)
  simp only [sgIns, chN, List.length_map, List.length_append]
  omega
/-! ### in any memory -/
theorem insFin {call : CallF} (hc : CallOK Tryz.prog 6 call) {f : Nat} {xs : List I} {len' : I} {org : Int} {x : Ins} (h : ((call (roW xs) f [.wsl 6 (I.lit 0) len', .int .i64 ⟨org, 0, 131072⟩] hpW).bind fun r => T.ret (insOf r)).run = some (some x)) (hx : InsOk x)
    {w0 : Base} {F : Nat → Prop} {ρ : Ren} {hp : Hp} {w : World} {ro : RO} (hr : Rel w0 F 6 ro ρ hp w) (hpow : isPow ro = true) {B n nl cap : Nat} (hw : WinAt w B n xs) (hlen : IR len' nl) (hcap : nl ≤ cap) (h0 : 0 ≤ org) (h1 : org ≤ 131072) :
    (∀ w, (callFunc f ⟨[.slice (some ⟨B, n, none⟩) nl cap, .int .i64 org]⟩).run Tryz.prog w = .ok (.enter f ⟨[.slice (some ⟨B, n, none⟩) nl cap, .int .i64 org]⟩) w) ∧
      Calls Tryz.prog f ⟨[.slice (some ⟨B, n, none⟩) nl cap, .int .i64 org]⟩ w (EndR w0 F 6 ro ρ (.ret (insV x), hp)) := by
  obtain ⟨v, hp', h2, h3, h4⟩ := insEnd h hx
  have hl : VRs (renW B n) [.wsl 6 (I.lit 0) len', .int .i64 ⟨org, 0, 131072⟩] [.slice (some ⟨B, n, none⟩) nl cap, .int .i64 org] :=
    ⟨_, _, rfl, ⟨B, n, 0, nl, cap, rfl, by rw [Nat.add_zero], IR.lit 0, hlen, hcap⟩, _, _, rfl, int_VR h0 h1, rfl⟩
  obtain ⟨g1, g2⟩ := winCall hc h2 h3 hr hpow hw hl
  exact ⟨g1, g2.mono fun e w' ⟨ρ', k1, k2, y, k3, k4⟩ => ⟨ρ', k1, k2, y, k3, h4 _ _ k4⟩⟩
/-- Bytes stand there, as numbers. -/
def ByAt (w : World) (B n nl : Nat) (f : Nat → Int) : Prop := ∃ l t fz, w.heap[B]? = some (.cells ⟨l⟩ t fz) ∧ ∀ i, i < nl → l[n + i]? = some (.int .u8 (f i)) ∧ 0 ≤ f i ∧ f i ≤ 255
theorem win_of {w : World} {B n nl : Nat} {f : Nat → Int} (h : ByAt w B n nl f) {xs : List I} (hx : ∀ (i : Nat) x, xs[i]? = some x → i < nl ∧ IR x (f i)) : WinAt w B n xs := by
  obtain ⟨l, t, fz, h1, h2⟩ := h
  refine ⟨l, t, fz, h1, fun i x hi => ?_⟩
  obtain ⟨g1, g2⟩ := hx i x hi
  exact ⟨f i, (h2 i g1).1, g2⟩
end Go.Proofs.YtlmacdfbdhpljaaGreatDoor
