/- Own text: the model: runs of instructions; what AddWord reckons. -/
import Derived.Test.YtmlfmkebljdoiaaGreatDoorCi
namespace Go.Proofs.YtmlfmkebljdoiaaGreatDoor
open Go.Ev Go.Ev.Tr Go.Proofs
set_option maxRecDepth 1000000
theorem z_id {g : Rg} (h : g.St = 0) : z g.IME g = g := by unfold z; rw [← h]
theorem ins {g g' : Rg} {m m' : Mem} {op k : Int} (hop : m (pk16 g.PC) = op) (hi : firstF g m op = some (k, ofR g', m')) : instrM 7 0 (ofR g) m = some (k, ofR g', m') := by
  rw [first_eq, hop, hi]
theorem run_step {c c' : Cpu} {m m' : Mem} {n : Nat} {all k : Int} (h : instrM 7 0 c m = some (k, c', m')) : runM (n + 1) c m all = runM n c' m' (IntKind.i64.wrap (all + k)) := by
  conv => lhs; unfold runM
  rw [h]
theorem fin_of {c c' : Cpu} {m m' : Mem} {n : Nat} {all : Int} (hn : n ≤ 1000000) (h : runM n c m 0 = some (c', m', all)) : fin20 (s20 c m n) = some ⟨c', m', n, all, n⟩ := by
  unfold fin20 s20
  simp only
  rw [decide_eq_true (show (0 : Int) ≤ 0 ∧ 0 ≤ (n : Int) ∧ (n : Int) ≤ 1000000 by omega)]
  have : ((n : Int) - 0).toNat = n := by omega
  rw [this, h]; rfl
theorem runsR_of {c c' : Cpu} {m m' : Mem} {n : Nat} {all : Int} (hn : n ≤ 1000000) (h : runM n c m 0 = some (c', m', all)) : (fin20 (s20 c m n)).isSome = true ∧ runsR c m n = ⟨c', m', n, all, n⟩ := by
  unfold runsR
  rw [fin_of hn h]; exact ⟨rfl, rfl⟩
/-! ### bits of a byte -/
theorem and_cases (k : Nat) (hk : k = 128 ∨ k = 64 ∨ k = 32 ∨ k = 16) {F : Int} (h0 : 0 ≤ F) (h1 : F ≤ 255) : andf F k = 0 ∨ andf F k = k := by
  obtain ⟨f, rfl⟩ := Int.eq_ofNat_of_zero_le h0
  have key : ∀ k ∈ [128, 64, 32, 16], ∀ f, f < 256 → (f &&& k = 0 ∨ f &&& k = k) := by decide +kernel
  have := key k (by rcases hk with rfl | rfl | rfl | rfl <;> simp) f (by omega)
  unfold andf
  have e1 : ((f : Int)).toNat = f := by omega
  have e2 : ((k : Int)).toNat = k := by omega
  rw [e1, e2]; omega
/-! ### AddWord -/
def view2 (r : AEnd × Hp) : Option (Int × Int) := match r.1 with
  | .ret (.tup [.int _ a, .int _ b]) => some (a.n, b.n)
  | _ => none
theorem alu2_of {f : Nat} {as' : List V} {p : Int × Int} (h : ((call0 ro0 f as' (startHp 2 1000000)).bind fun r => T.ofOpt (view2 r)).run = some p) : alu2 f as' 0 = p.1 ∧ alu2 f as' 1 = p.2 := by
  obtain ⟨⟨e, hp'⟩, h1, h2⟩ := T.run_bind_some h
  rw [T.run_ofOpt] at h2
  unfold view2 at h2
  split at h2 <;> try contradiction
  rename_i k a k2 b he
  simp only at he; subst he
  injection h2 with h2; subst h2
  unfold alu2
  rw [h1]
  exact ⟨rfl, rfl⟩
theorem addW_ev : (fun x y F => ((call0 ro0 146 [kb .u16 x, kb .u16 y, kb .u8 F] (startHp 2 1000000)).bind fun r => T.ofOpt (view2 r)).run) =
    (fun x y F => bif !(andf F 128 == 0) then
        (bif decide (4095 < x % 4096 + y % 4096) then (bif decide (65535 < x + y) then some ((x + y) % 65536, 176) else some ((x + y) % 65536, 160)) else (bif decide (65535 < x + y) then some ((x + y) % 65536, 144) else some ((x + y) % 65536, 128)))
      else
        (bif decide (4095 < x % 4096 + y % 4096) then (bif decide (65535 < x + y) then some ((x + y) % 65536, 48) else some ((x + y) % 65536, 32)) else (bif decide (65535 < x + y) then some ((x + y) % 65536, 16) else some ((x + y) % 65536, 0)))) := by kernel_rfl
theorem addW_eq (x y F : Int) (hF0 : 0 ≤ F) (hF1 : F ≤ 255) : addW x y F 0 = (x + y) % 65536 ∧ (!(andf (addW x y F 1) 16 == 0)) = decide (65535 < x + y) ∧ andf (addW x y F 1) 128 = andf F 128 ∧ andf (addW x y F 1) 64 = 0 ∧ (!(andf (addW x y F 1) 32 == 0)) = decide (4095 < x % 4096 + y % 4096) ∧ 0 ≤ addW x y F 1 ∧ addW x y F 1 ≤ 255 := by
  have hev := congrFun (congrFun (congrFun addW_ev x) y) F
  have hz := and_cases 128 (.inl rfl) hF0 hF1
  have hz' : andf F 128 = 0 ∨ andf F 128 = 128 := hz
  unfold addW
  rcases hz' with hz | hz <;> simp only [hz] at hev ⊢ <;>
    (cases h1 : decide (4095 < x % 4096 + y % 4096) <;> cases h2 : decide (65535 < x + y) <;> simp only [h1, h2, cond_true, cond_false, BEq.rfl, Bool.not_true, Bool.not_false, show ((128 : Int) == 0) = false by decide] at hev <;>
      (obtain ⟨e1, e2⟩ := alu2_of hev; rw [e1, e2]; dsimp only; refine ⟨rfl, by decide, by decide, by decide, by decide, by decide, by decide⟩))
end Go.Proofs.YtmlfmkebljdoiaaGreatDoor
