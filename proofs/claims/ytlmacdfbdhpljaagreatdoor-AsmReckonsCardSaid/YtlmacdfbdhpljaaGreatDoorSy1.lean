/- Own text: AsmReckons, walked through: without names. -/
import Derived.Test.YtlmacdfbdhpljaaGreatDoorSy0
import Derived.Test.YtlmacdfbdhpljaaGreatDoorSy2
import Derived.WalkKit
import Derived.BigCall
namespace Go.Proofs.YtlmacdfbdhpljaaGreatDoor
open Go.Ev Go.Ev.Tr Go.Proofs Go.RowKit
set_option maxRecDepth 1000000
theorem pick_is (w : World) {c : Int} (hc1 : kmin .i64 ≤ c ∧ c ≤ kmax .i64) {m : Nat} (h1 : 1 ≤ m) (h2 : m ≤ 65536) : Calls Tryz.prog 17 #[.int .i64 c, .int .i64 m] w fun e w' => e = .returned (.int .i64 ((pckV c m).toNat : Nat)) ∧ Below w.heap.size w w' := by
  have hrun : (pickSum noRO (startHp 6 1000000) [.int .i64 ⟨c, kmin .i64, kmax .i64⟩, .int .i64 (I.lit m)]).run = some (.ret (.int .i64 (pckI ⟨c, kmin .i64, kmax .i64⟩ m)), startHp 6 1000000) := by
    simp only [pickSum]
    rw [show litI (I.lit (m : Int)) = some m by simp [litI, I.lit, ieq, show ile 0 (m : Int) = true from ile_iff.2 (by omega)]]
    simp only
    rw [show (Nat.ble 1 m && Nat.ble m 65536 && ile (kmin .i64) (kmin .i64) && ile (kmax .i64) (kmax .i64)) = true by
      simp only [Bool.and_eq_true, Nat.ble_eq, ile_iff]; omega]
    rfl
  obtain ⟨_, g⟩ := pick_at noRO _ _ _ hrun _ _ _ w [.int .i64 c, .int .i64 m] (relN w) ⟨_, _, rfl, ⟨c, rfl, rfl, hc1.1, hc1.2⟩, _, _, rfl, ⟨m, rfl, IR.lit _⟩, rfl⟩
  refine g.mono fun e w' ⟨ρ', _, k2, x, k3, n, k4, k5⟩ => ⟨?_, kept_of k2⟩
  subst k4
  have hn : n = pckV c m := k5.1
  have hin := pckV_in (c := c) (n := (m : Int)) (by omega)
  rw [k3, show (((pckV c m).toNat : Nat) : Int) = n by omega]
theorem pck_lt (c : Int) {m : Nat} (h : 1 ≤ m) : (pckV c m).toNat < m := by
  have := pckV_in (c := c) (n := (m : Int)) (by omega)
  omega
/-- The argument: none, or pairs that lie somewhere. -/
def ArgP (w : World) (ao : Option Addr) (len : Nat) (f g : Nat → Int) : Prop := 0 < len → ∃ B off, ao = some ⟨B, off, none⟩ ∧ PiecesAt w B off len f g
theorem EOk.up {vs : Nat → Int} {m m' : Nat} (hm : m ≤ m') : ∀ {l : Exp}, EOk vs m l → EOk vs m' l
  | [], _ => trivial
  | (k, t) :: l, ⟨h1, h2, h3⟩ => ⟨EOk.up hm h1, by
    cases t with
    | num n => exact h2
    | nm i => exact Nat.lt_of_lt_of_le h2 hm, h3⟩
theorem EOk.terms {vs : Nat → Int} {m : Nat} (hm : m ≤ 6) : ∀ {l : Exp}, EOk vs m l → ∀ p ∈ l, p.2.ok
  | [], _, p, h => by cases h
  | (k, t) :: l, ⟨h1, h2, h3⟩, p, h => by
    rcases List.mem_cons.1 h with rfl | h
    · cases t with
      | num n => exact h2
      | nm i => exact Nat.lt_of_lt_of_le h2 hm
    · exact EOk.terms hm h1 p h
/-- Both questions, answered. -/
theorem eval_one {w : World} {vs : Nat → Int} {m : Nat} (hm : m ≤ 6) {nv : Value} (hN : NamesAt w vs m nv) {l : Exp} (hl : l.length ≤ 6) (he : EOk vs m l) :
    Calls Tryz.prog 19 #[.string ⟨⟨eB l⟩⟩, nv, .int .i64 5] w fun e w' => e = .returned (.tuple #[.int .i64 (eV vs l), .int .i64 0, .int .i64 0]) ∧ Below w.heap.size w w' := by
  have hlen := eB_len l
  have hf : Fits [] (eB l) 0 := ⟨by simp; omega, by decide, by decide⟩
  obtain ⟨d, h1, h2⟩ := exp_at l (he.terms hm) (pre := []) (sp := []) (rest := []) (o := 0) sp0 (hf.cast (by simp)) (by omega) stop_nil
  have x := EX.of_at (r := 0) (pre := []) (w := eB l) (rest := []) (hf.cast (by simp)) (h2.cast (by simp) (by simp)) (by omega) (by omega) fun i h1 h2 => noOps_at noOps_nil h1 h2
  exact eval_calls (k := l.length + 2) hN (x.cast (by simp) (by simp)) (by omega) (by have := exp_ev hm 5 h1 he 0; rwa [Nat.zero_add] at this)
theorem eval_two {w : World} {vs : Nat → Int} {m : Nat} (hm : m ≤ 6) {nv : Value} (hN : NamesAt w vs m nv) {l : Exp} (hl : l.length ≤ 6) (he : EOk vs m l) :
    Calls Tryz.prog 19 #[.string ⟨⟨hlB l⟩⟩, nv, .int .i64 5] w fun e w' => e = .returned (.tuple #[.int .i64 (eV vs l / 256 % 256 * 256 + eV vs l % 256), .int .i64 0, .int .i64 0]) ∧ Below w.heap.size w w' := by
  have hlen := eB_len l
  have hlen2 := hlB_len l
  obtain ⟨d, h1, h2⟩ := hl_at (he.terms hm) hl (by omega)
  exact eval_calls hN h2 (by omega) (hl_ev hm 5 h1 he 0)
theorem hl_txt (l : Exp) : (⟨⟨[104, 105, 103, 104, 40]⟩⟩ : ByteArray) ++ ⟨⟨eB l⟩⟩ ++ ⟨⟨[41, 42, 50, 53, 54, 43, 108, 111, 119, 40]⟩⟩ ++ ⟨⟨eB l⟩⟩ ++ ⟨⟨[41]⟩⟩ = ⟨⟨hlB l⟩⟩ := by
  simp only [ba_app]
  unfold hlB hiB loB
  simp
end Go.Proofs.YtlmacdfbdhpljaaGreatDoor
