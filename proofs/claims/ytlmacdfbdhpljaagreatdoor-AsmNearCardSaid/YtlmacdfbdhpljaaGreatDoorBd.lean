/- Own text: digits, by their bounds. -/
import Derived.Test.YtlmacdfbdhpljaaGreatDoorDc
namespace Go.Proofs.YtlmacdfbdhpljaaGreatDoor
open Go.Ev Go.Ev.Tr Go.Proofs
set_option maxRecDepth 1000000
def b16D : Summ := fun ro hp args => match args with
  | [.int k i] => match decide (k = .u8) && ile 48 i.lo && ile i.hi 57 with
    | true => .ret (.ret (.int .i64 ⟨i.n - 48, i.lo - 48, i.hi - 48⟩), hp)
    | false => b16F.sum ro hp args
  | _ => .fail
theorem b16_dig {n : Int} (h0 : 48 ≤ n) (h1 : n ≤ 57) : (b16F.mod () n).2.1 = n - 48 := by
  have : n = 48 ∨ n = 49 ∨ n = 50 ∨ n = 51 ∨ n = 52 ∨ n = 53 ∨ n = 54 ∨ n = 55 ∨ n = 56 ∨ n = 57 := by omega
  rcases this with h | h | h | h | h | h | h | h | h | h <;> subst h <;> decide
theorem b16D_at : SumAt 160 b16D := by
  intro ro hp args r hr w0 F ρ w l hrel hl
  unfold b16D at hr
  split at hr <;> try (cases hr; done)
  rename_i k i
  split at hr
  · rename_i hc
    simp only [Bool.and_eq_true, decide_eq_true_eq, ile_iff] at hc
    obtain ⟨⟨rfl, h1⟩, h2⟩ := hc
    injection hr with hr; subst hr
    have hl' := hl
    obtain ⟨x, xs, rfl, ⟨n, rfl, hn⟩, hnil⟩ := hl'
    have e : xs = [] := hnil
    subst e
    obtain ⟨e, hlo, hhi⟩ := hn
    subst e
    have hrun : (b16F.sum ro hp [.int .u8 ⟨i.n, 48, 57⟩]).run = some (.ret (b16F.enc (b16F.mod () i.n).2.1), hp) := by
      have : b16F.ask () i.n = true := by
        show (b16F.okA i.n && true && true) = true
        have : b16F.okA i.n = true := rfl
        rw [this]; rfl
      show (T.br (b16F.ask () i.n) (T.br (b16F.mod () i.n).1 _ _) .fail).run = _
      simp only [T.run, this]
      rfl
    obtain ⟨g1, g2⟩ := b16_at _ _ _ _ hrun _ _ _ _ [.int .u8 i.n] hrel ⟨_, _, rfl, int_VR (by omega) (by omega), rfl⟩
    refine ⟨g1, g2.mono fun en w' ⟨ρ', q1, q2, y, q3, q4⟩ => ⟨ρ', q1, q2, y, q3, ?_⟩⟩
    obtain ⟨m, rfl, hm⟩ := q4
    have hm1 := hm.1
    have : m = i.n - 48 := by rw [hm1]; exact b16_dig (by omega) (by omega)
    subst this
    exact ⟨_, rfl, rfl, by show i.lo - 48 ≤ _; omega, by show _ ≤ i.hi - 48; omega⟩
  · exact b16_at _ _ _ _ hr _ _ _ _ _ hrel hl
end Go.Proofs.YtlmacdfbdhpljaaGreatDoor
