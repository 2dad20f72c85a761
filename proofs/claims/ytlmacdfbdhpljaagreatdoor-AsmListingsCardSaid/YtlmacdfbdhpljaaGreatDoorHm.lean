/- Own text: a row of bytes as an argument; the law of Disasm. -/
import Derived.Test.YtlmacdfbdhpljaaGreatDoorXh
import Derived.Test.YtlmacdfbdhpljaaGreatDoorOx
import Derived.Test.YtlmacdfbdhpljaaGreatDoorLw
import Derived.ChangeSlices
namespace Go.Proofs.YtlmacdfbdhpljaaGreatDoor
open Go.Ev Go.Ev.Tr Go.Proofs Go.ChangeShapes Go.WideShapes Go.ChangeAt Go.RowKit
set_option maxRecDepth 1000000
theorem laidOutP : laidOutB Tryz.prog = true := by kernel_rfl
theorem und36 : Tryz.prog.underlying 36 = some (.slice 5) := Tryz.underlying36
theorem cells5 : Tryz.prog.cellsOf 5 = 1 := by kernel_rfl
theorem size36 : (36 : Nat) < Tryz.prog.types.size := of_decide_eq_true (by kernel_rfl)
theorem rowAt_le {p : Program} {fits : TypeId → Bool} {d : Nat} {e : TypeId} {count off n : Nat} (h : rowAt p fits d e count off n = true) : off ≤ count * p.cellsOf e := by
  cases d with
  | zero => cases h
  | succ d =>
    unfold rowAt at h
    simp only at h
    split at h
    · cases h
    · rename_i hs
      have hpos : 0 < p.cellsOf e := Nat.pos_of_ne_zero hs
      have hdm := Nat.div_add_mod off (p.cellsOf e)
      have hlt := Nat.mod_lt off hpos
      rw [Bool.or_eq_true] at h
      rcases h with h | h
      · simp only [Bool.and_eq_true, beq_iff_eq, decide_eq_true_eq] at h
        have h1 : off / p.cellsOf e ≤ count := by omega
        have := Nat.mul_le_mul_left (p.cellsOf e) h1
        rw [Nat.mul_comm count]
        omega
      · rw [Bool.and_eq_true, decide_eq_true_eq] at h
        have h1 : off / p.cellsOf e + 1 ≤ count := h.1
        have := Nat.mul_le_mul_left (p.cellsOf e) h1
        rw [Nat.mul_comm count]
        rw [Nat.mul_add, Nat.mul_one] at this
        omega
theorem liesAt_le {p : Program} {d : Nat} {e : TypeId} {count off : Nat} {u : TypeId} {n : Nat} {k : IntKind} (hu : p.underlying u = some (.int k)) (h : liesAt p d e count off u n = true) : off ≤ count * p.cellsOf e := by
  cases d with
  | zero => cases h
  | succ d =>
    unfold liesAt at h
    rw [hu] at h
    simp only [Bool.or_false] at h
    exact rowAt_le h
/-- What is known of such a row. -/
structure RowB (W : World) (B off len cap : Nat) (zs : List Int) (row : List Value) (t : TypeId) (fz : Nat × Nat) : Prop where
  hl : len ≤ cap
  hc : cap ≤ maxLen
  hz : zs.length = cap
  hB : W.heap[B]? = some (.cells ⟨row⟩ t fz)
  hp : off + cap ≤ row.length
  cell : ∀ i, (h : i < zs.length) → row[off + i]? = some (.int .u8 zs[i]) ∧ InU8 zs[i]
section
variable {H : Type} {enc : TypeId × Value → H} {W : World}
theorem open_rowB {r : Reach} {base : Nat} {v : Value} {d : DataW H} {p : List MemPlace} (hv : Value.okWide Tryz.prog W r base 36 v) (h : DataW.Trod enc Tryz.prog W 0 (fun _ => true) true 36 v d p) :
    (v = .slice none 0 0 ∨ ∃ B off len cap zs row t fz, v = .slice (some ⟨B, off, none⟩) len cap ∧ RowB W B off len cap zs row t fz ∧ d = .slice (lits .u8 (zs.take len)) (lits .u8 (zs.drop len))) ∧
      ∀ (W' : World) (sp' : Nat → Bool), W.keptBut W' (fun _ => False) → (∀ b, b < W.heap.size → sp' b = true) → DataW.Trod enc Tryz.prog W' 0 sp' true 36 v d p := by
  have hT := h
  obtain ⟨fuel, hf⟩ := h
  have hform : v = .slice none 0 0 ∨ ∃ a len cap, v = .slice (some a) len cap ∧ a.spot = none ∧ ∃ x, W.shape? a.block = some x ∧ a.off ≤ x.2 := by
    unfold Value.okWide at hv
    rw [und36] at hv
    simp only at hv
    unfold Cell.okWide at hv
    rw [und36] at hv
    cases v <;> simp only [Cell.ok, und36] at hv <;> try (exact hv.elim)
    rename_i a len cap
    cases a with
    | none =>
      cases len with
      | zero =>
        cases cap with
        | zero => exact .inl rfl
        | succ n => exact hv.elim
      | succ n => exact hv.elim
    | some a => exact .inr ⟨a, len, cap, rfl, hv.2.2.2.1, by
      obtain ⟨row, cells, h1, h2⟩ := hv.2.2.2.2
      exact ⟨_, h1, Nat.le_trans (liesAt_le Tryz.underlying5 h2) (Nat.div_mul_le_self _ _)⟩⟩
  have hcells : ∀ (a : Option Addr) (l c : Nat), (Value.slice a l c).cells.toList = [.slice a l c] := fun _ _ _ => rfl
  rcases hform with rfl | ⟨a, len, cap, rfl, hspot, x, hshape, hoff⟩
  · refine ⟨.inl rfl, fun W' sp' _ _ => ?_⟩
    rw [hcells] at hf
    rcases open_ints und36 Tryz.underlying5 cells5 hf with ⟨_, he⟩ | ⟨a, len, cap, zs, he, _⟩
    · simp only [Prod.mk.injEq] at he
      obtain ⟨rfl, rfl⟩ := he
      exact WideElems.Trod_stays laidOutP (by kernel_rfl) size36 hT (fun p hp => by cases hp) (fun p hp => by cases hp)
    · simp at he
  · rw [hcells] at hf
    rcases open_ints und36 Tryz.underlying5 cells5 hf with ⟨he, _⟩ | ⟨a', len', cap', zs, he, hb, hl, hc, hz, hx, hcell, hw⟩
    · simp at he
    · simp only [List.cons.injEq, Value.slice.injEq, Option.some.injEq, and_true] at he
      obtain ⟨rfl, rfl, rfl⟩ := he
      simp only [if_true] at hz
      simp only [Prod.mk.injEq] at hx
      obtain ⟨rfl, rfl⟩ := hx
      obtain ⟨B, off, spot⟩ := a
      simp only at hspot hshape hoff
      subst hspot
      obtain ⟨row, t, fz, hB, hrow⟩ : ∃ row t fz, W.heap[B]? = some (.cells ⟨row⟩ t fz) ∧ off ≤ row.length := by
        unfold World.shape? at hshape
        split at hshape
        · rename_i c e f hc'
          injection hshape with hshape
          subst hshape
          exact ⟨c.toList, e, f, hc', hoff⟩
        · cases hshape
      have hcell' : ∀ i, (h : i < zs.length) → row[off + i]? = some (.int .u8 zs[i]) := fun i h => by
        have h1 := hcell i h
        rw [add_plain] at h1
        unfold World.cell? at h1
        simp only [hB] at h1
        have e : zs.getD i 0 = zs[i] := by simp [List.getD_eq_getElem?_getD, h]
        rw [e] at h1
        simpa using h1
      have hpl : off + cap ≤ row.length := by
        rcases Nat.eq_zero_or_pos cap with e | e
        · omega
        · have h1 := hcell' (cap - 1) (by omega)
          have := (List.getElem?_eq_some_iff.1 h1).1
          omega
      refine ⟨.inr ⟨B, off, len, cap, zs, row, t, fz, rfl, ⟨hl, hc, hz, hB, hpl, fun i h => ⟨hcell' i h, ?_⟩⟩, rfl⟩, fun W' sp' hk hsp => ?_⟩
      · exact inU8_of (hw _ (List.getElem_mem h))
      · refine WideElems.Trod_stays laidOutP (by kernel_rfl) size36 hT (fun p hp => ?_) (fun p hp => ?_)
        · simp only [MemPlace.row, List.mem_map] at hp
          obtain ⟨i, _, rfl⟩ := hp
          have hk' := hk.2.2 B (lt_of_heap hB)
          rw [hB] at hk'
          show W'.cell? _ = W.cell? _
          unfold World.cell?
          simp only [hB]
          cases hB' : W'.heap[B]? with
          | none => rw [hB'] at hk'; simp at hk'
          | some o =>
            rw [hB'] at hk'
            cases o with
            | cells c' t' fr' =>
              obtain ⟨_, _, _, h4⟩ := hk'
              simp only
              rw [h4 _ (fun h => h)]
            | map es cl => simp at hk'
            | stringIter s p => simp at hk'
            | mapIter _ => simp at hk'
            | _ => simp at hk'
        · simp only [MemPlace.row, List.mem_map] at hp
          obtain ⟨i, _, rfl⟩ := hp
          exact hsp B (lt_of_heap hB)
theorem bulk_one {d : DataW H} : 1 ≤ Rows.uptoBulk d := by
  cases d with
  | lit l => cases l <;> simp [Rows.uptoBulk]
  | nil => simp [Rows.uptoBulk]
  | ptr d => simp [Rows.uptoBulk]
  | slice elems spare => simp [Rows.uptoBulk]
  | agg parts => simp [Rows.uptoBulk]
  | iface t d => simp [Rows.uptoBulk]
  | map entries => simp [Rows.uptoBulk]
  | held h => simp [Rows.uptoBulk]
theorem bulk_len : ∀ (l : List (DataW H)), l.length ≤ Rows.uptoBulkAll l
  | [] => by simp [Rows.uptoBulkAll]
  | x :: r => by
    have := bulk_one (d := x)
    have := bulk_len r
    simp only [Rows.uptoBulkAll, List.length_cons]; omega
theorem bulk_slice {elems spare r : List (DataW H)} (h : Rows.uptoSmall H (.slice elems spare :: r) = true) : elems.length + spare.length ≤ 1048576 := by
  have h : Rows.uptoBulkAll (.slice elems spare :: r) ≤ 1048576 := of_decide_eq_true h
  simp only [Rows.uptoBulkAll, Rows.uptoBulk] at h
  have h1 := bulk_len elems
  have h2 := bulk_len spare
  omega
end
/-! ### where a law begins, and how it ends -/
theorem ro10_pow : isPow ro10 = true := by kernel_rfl
theorem relB {W : World} {B off len cap : Nat} {zs : List Int} {row : List Value} {t : TypeId} {fz : Nat × Nat} (hL : laidMetH Tryz.prog laidL W) (hsh : W.ShapedOpen Tryz.prog) (hR : RowB W B off len cap zs row t fz) :
    Rel ⟨W, renW B row.length, 7⟩ (fun _ => False) 6 (roG off zs) (renW B row.length) (startHp 7 1000000) W :=
  rel_seg (rel0 hL hsh) ro10_pow hR.hB rfl fun i h => hR.cell i h
theorem viewH_some {t : T (AEnd × Hp)} (h : (t.bind fun r => T.ret (viewH r)).run = some true) : ∃ v hp', t.run = some (.ret v, hp') ∧ ∀ (ρ : Ren) x, VR ρ v x → x = .bool true := by
  obtain ⟨⟨e, hp⟩, h1, h2⟩ := T.run_bind_some h
  injection h2 with h2
  unfold viewH at h2
  simp only at h2
  split at h2
  · rename_i b
    subst h2
    exact ⟨_, hp, h1, fun ρ x h => h⟩
  · rename_i b
    subst h2
    exact ⟨_, hp, h1, fun ρ x h => h⟩
  · cases h2
theorem endKept {W W' : World} {ρ ρ' : Ren} {n : Nat} {ro : RO} {hp : Hp} (hrel : Rel ⟨W, ρ, n⟩ (fun _ => False) 6 ro ρ' hp W') : W.keptBut W' (fun _ => False) := by
  refine ⟨hrel.os, hrel.output, fun i hi => ?_⟩
  have := hrel.frame i hi (fun h => h)
  rw [this]
  cases hw : W.heap[i]? with
  | none => rfl
  | some o => cases o <;> first | rfl | exact ⟨rfl, rfl, rfl, fun _ _ => rfl⟩ | exact .inr ⟨rfl, rfl⟩
theorem argV_VR {W : World} {B off len cap : Nat} {zs : List Int} {row : List Value} {t : TypeId} {fz : Nat × Nat} (hR : RowB W B off len cap zs row t fz) {lo hi : Int} (h1 : lo ≤ (len : Int)) (h2 : (len : Int) ≤ hi) (h4 : (cap : Int) ≤ magicS) : VR (renW B row.length) (argV lo hi (pl off) len len) (.slice (some ⟨B, off, none⟩) len cap) := by
  have := hR.hl
  have := hR.hp
  exact ⟨B, row.length, off, len, cap, rfl, rfl, ⟨rfl, by show (-1 : Int) ≤ off; omega, Int.le_refl _⟩, ⟨rfl, h1, h2⟩, by omega, h4, hR.hl, by omega⟩
theorem lawHook {f : Nat} {hk : St → T (X × St)} {ro : RO} {sm : Nat → Option Summ} (hsm : ∀ f s, sm f = some s → SumAt f s) (hf : fns.get f = some (fnOf f)) (hb : (fnOf f).body = some (bodyOf f)) (hl : blocksOf 0 (bodyOf f) = [.loop (loopOf f 0)]) (hh : ∀ w0 F, HookOK Tryz.prog (envA sm) w0 F ro (ntOf f) (.block 0 (.loop (loopOf f 0))) hk)
    {W : World} {ρ : Ren} {n : Nat} {hp : Hp} {av : List V} {l : List Value} (hrun : ((bodyF2 (envA sm) 10000 (callA sm) ro (fnOf f) (withHooks (hook1 0 hk) (bodyOf f)) av hp).bind fun r => T.ret (viewH r)).run = some true) (hrel : Rel ⟨W, ρ, n⟩ (fun _ => False) 6 ro ρ hp W) (hargs : VRs ρ av l) :
    Calls Tryz.prog f ⟨l⟩ W fun e W' => e = .returned (.bool true) ∧ W.keptBut W' (fun _ => False) := by
  obtain ⟨v, hp', h1, h2⟩ := viewH_some hrun
  have g2 := bodyF2_sound (E := envA sm) (c := withHooks (hook1 0 hk) (bodyOf f)) (envAOK sm) (callAOK hsm) ((envAOK sm).fn _ _ hf) (by rw [withHooks_erase]; exact hb) (withHooks_ok _ fun id g b h1 h2 => by
    unfold hook1 at h1
    split at h1 <;> try contradiction
    rename_i hid
    have hid := Nat.eq_of_beq_eq_true hid
    subst hid
    injection h1 with h1; subst h1
    rw [hl] at h2
    have e : b = .loop (loopOf f 0) := by simpa using h2
    subst e
    exact hh _ _) h1 hrel hargs
  refine g2.mono fun e W' ⟨ρ', _, hrel', x, hx, hvr⟩ => ?_
  have := h2 _ _ hvr
  subst this
  exact ⟨hx, endKept hrel'⟩
theorem lawNil {f : Nat} {sm : Nat → Option Summ} (hsm : ∀ f s, sm f = some s → SumAt f s) {W : World} {ro : RO} {ρ : Ren} {n : Nat} {hp : Hp} {av : List V} {l : List Value} (hrun : ((callA sm ro f av hp).bind fun r => T.ret (viewH r)).run = some true) (hrel : Rel ⟨W, ρ, n⟩ (fun _ => False) 6 ro ρ hp W) (hargs : VRs ρ av l) :
    Calls Tryz.prog f ⟨l⟩ W fun e W' => e = .returned (.bool true) ∧ W.keptBut W' (fun _ => False) := by
  obtain ⟨v, hp', h1, h2⟩ := viewH_some hrun
  obtain ⟨_, g2⟩ := callAOK hsm _ _ _ _ _ h1 _ _ _ W l hrel hargs
  refine g2.mono fun e W' ⟨ρ', _, hrel', x, hx, hvr⟩ => ?_
  have := h2 _ _ hvr
  subst this
  exact ⟨hx, endKept hrel'⟩
end Go.Proofs.YtlmacdfbdhpljaaGreatDoor
