/- Own text: lookup as a table; awake. -/
import Derived.Test.YtlmacdfbdhpljaaGreatDoorBt
namespace Go.Proofs.YtlmacdfbdhpljaaGreatDoor
open Go.Ev Go.Ev.Tr Go.Proofs
set_option maxRecDepth 1000000
theorem lookOk_all : ∀ i, i < 512 → lookOk i = true := by
  intro i hi
  have key : ∀ k, k < 32 → ∀ j, j < 16 → lookOk (32 * j + k) = true := by
    intro k hk j hj
    match j, hj with
    | 0, _ => exact allN_get look0 k hk
    | 1, _ => exact allN_get look1 k hk
    | 2, _ => exact allN_get look2 k hk
    | 3, _ => exact allN_get look3 k hk
    | 4, _ => exact allN_get look4 k hk
    | 5, _ => exact allN_get look5 k hk
    | 6, _ => exact allN_get look6 k hk
    | 7, _ => exact allN_get look7 k hk
    | 8, _ => exact allN_get look8 k hk
    | 9, _ => exact allN_get look9 k hk
    | 10, _ => exact allN_get look10 k hk
    | 11, _ => exact allN_get look11 k hk
    | 12, _ => exact allN_get look12 k hk
    | 13, _ => exact allN_get look13 k hk
    | 14, _ => exact allN_get look14 k hk
    | 15, _ => exact allN_get look15 k hk
    | j + 16, h => omega
  have := key (i % 32) (Nat.mod_lt _ (by omega)) (i / 32) (by omega)
  rwa [Nat.div_add_mod] at this
def lookTbl (args : List V) : Option V := match args with
  | [.int k i, .bool b] => match decide (k = .i64) with
    | true => match litI i with
      | some n => match Nat.ble (n + 1) 256 with
        | true => some (lookAt n b).v
        | false => none
      | none => none
    | false => none
  | _ => none
theorem strV_under (s : List Nat) : V.under 0 (strV s) = true := rfl
theorem code_under (c : CodeT) : V.under 0 c.v = true := rfl
theorem lookAt_eq (n : Nat) (b : Bool) (h : n < 256) : ∃ i, i < 512 ∧ lookAt n b = lookTab.getD i ⟨[], 0, [], 0, 0, false⟩ ∧ i % 256 = n ∧ Nat.ble 256 i = b := by
  cases b with
  | true => exact ⟨256 + n, by omega, rfl, by omega, Nat.ble_eq_true_of_le (by omega)⟩
  | false => exact ⟨n, by omega, rfl, by omega, by
      cases hb : Nat.ble 256 n with
      | false => rfl
      | true => have := Nat.le_of_ble_eq_true hb; omega⟩
theorem look_tab : TabOK callL 6 1000000 50 lookTbl := by
  intro args v h
  unfold lookTbl at h
  split at h <;> try contradiction
  rename_i k i b
  split at h <;> try contradiction
  rename_i hk
  have hk := of_decide_eq_true hk
  subst hk
  split at h <;> try contradiction
  rename_i n hn
  split at h <;> try contradiction
  rename_i hlt
  have hlt := Nat.le_of_ble_eq_true hlt
  injection h with h; subst h
  obtain ⟨j, h1, h2, h3, h4⟩ := lookAt_eq n b (by omega)
  have hok := lookOk_all j h1
  unfold lookOk at hok
  split at hok <;> try contradiction
  rename_i v' hp' hrun
  rw [h3, h4] at hrun
  have e := vEq_sound _ _ hok
  subst e
  refine ⟨[.int .i64 (I.lit (n : Nat)), .bool b], fun ρ l hl => ?_, rfl, by rw [h2]; rfl, hp', by rw [h2]; exact hrun⟩
  obtain ⟨x, xs, rfl, ⟨m, rfl, hm⟩, y⟩ := hl
  have := litI_int hn hm
  subst this
  exact ⟨_, _, rfl, ⟨_, rfl, IR.lit _⟩, y⟩
theorem look_at : SumAt 50 (tabSum lookTbl) := fun _ _ _ _ h _ _ _ _ _ hr hl => tabSum_sound callLOK look_tab h hr hl
noncomputable def sm1 (f : Nat) : Option Summ := match Nat.beq f 50 with
  | true => some (tabSum lookTbl)
  | false => smL f
theorem sm1_ok : ∀ f s, sm1 f = some s → SumAt f s := by
  intro f s h
  unfold sm1 at h
  split at h
  · rename_i e
    have e := Nat.eq_of_beq_eq_true e
    subst e
    injection h with h; subst h; exact look_at
  · exact smL_ok f s h
noncomputable def env1 : Env := { env0 with sm := sm1 }
theorem env1OK : EnvOK Tryz.prog env1 := envOK_of tysOK fnsOK mixedOK
noncomputable def call1 : CallF := evG env1 10000 1000
theorem call1OK : CallOK Tryz.prog 6 call1 := evG_ok env1OK sm1_ok 10000 1000
end Go.Proofs.YtlmacdfbdhpljaaGreatDoor
