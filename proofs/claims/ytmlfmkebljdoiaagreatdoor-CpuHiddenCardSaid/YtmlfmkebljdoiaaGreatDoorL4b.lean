/- Own text: memory, of one piece whose bytes are of a told length: its inner loop. -/
import Derived.Test.YtmlfmkebljdoiaaGreatDoorL4
namespace Go.Proofs.YtmlfmkebljdoiaaGreatDoor
open Go.Ev Go.Ev.Tr Go.Proofs
set_option maxRecDepth 1000000
noncomputable def c19 : Code := bodyOf Tryz.f19
noncomputable def D19 : Code := sR (sR c19)
noncomputable def K19 : Code := lL (bL (sR (sL D19)))
noncomputable def I19 : Code := bL (sL (sR K19))
noncomputable def B19 : Code := sR I19
noncomputable def LB19 : Code := lL (bL B19)
theorem B19_eq : B19 = .block 2 (.loop (C2.code LB19).erase) := by kernel_rfl
noncomputable def c2_19 (h : St → T (X × St)) : C2 := .seq (.code (sL c19)) (.seq (.code (sL (sR c19))) (.seq (.seq (.code (sL (sL D19))) (.block 0 (.loop (.seq (.code (sL K19)) (.seq (.block 1 (.seq (.code (sL I19)) (.hook B19 h))) (.code (sR (sR K19)))))))) (.code (sR D19))))
theorem c2_19_eq (h : St → T (X × St)) : Tryz.f19.body = some (c2_19 h).erase := by kernel_rfl
def pcB (at_ : Int) (v : V) : Blk := .cells [.int .i64 (I.lit at_), v]
def sp19 : LSpec := { ts := [(0, .same), (3, .row 22 1 65536), (4, .int .i64 0 0), (5, i64S)], bs := [(6, .same), (7, .same), (8, .same), (10, .cpu 8), (21, .same), (22, memS)], nxt := 23, lim := 1000000 }
structure R19 where
  B6 : Blk
  B7 : Blk
  B8 : Blk
  B21 : Blk
  c : Cpu
  m : Mem
  v : V
  z : Int
  k : Int
def cn19 (s : R19) : St := ⟨(((Tr.lf.set 5 (some (vi64 s.k))).set 4 (some (.int .i64 ⟨s.z, 0, 0⟩))).set 3 (some (rowV 22))).set 0 (some s.v), [],
  ⟨(((((Tr.lf.set 22 (some (memB s.m))).set 21 (some s.B21)).set 10 (some (.cells (enc 8 s.c)))).set 8 (some s.B8)).set 7 (some s.B7)).set 6 (some s.B6), 23, 1000000⟩⟩
def par19 (st : St) : R19 := ⟨blkAt st.hp.m 6, blkAt st.hp.m 7, blkAt st.hp.m 8, blkAt st.hp.m 21, cpuOf (csOf (blkAt st.hp.m 10)), fnOf (blkAt st.hp.m 22), tmpV st.tmps 0, nOf (tmpV st.tmps 4), nOf (tmpV st.tmps 5)⟩
theorem par19_eq (st : St) : encSt sp19 st = cn19 (par19 st) := rfl
theorem cn19_canon (s : R19) : Canon sp19 (cn19 s) := ⟨rfl, rfl, rfl, fun t => by
  simp only [cn19, Tr.get_set, sp19, inKeys, or_false]
  by_cases h2 : t = 6
  · simp [h2]
  · by_cases h3 : t = 7
    · simp [h3]
    · by_cases h4 : t = 8
      · simp [h4]
      · by_cases h5 : t = 10
        · simp [h5]
        · by_cases h6 : t = 21
          · simp [h6]
          · by_cases h7 : t = 22
            · simp [h7]
            · simp [h2, h3, h4, h5, h6, h7, Tr.get]⟩
def pcV : V := .slice 21 2 (I.lit 0) (I.lit 1) 1 1
def adr19 (k : Int) : Int := (IntKind.i64.wrap (512 + k)).tmod 65536
def put19 (m : Mem) (a v : Int) : Mem := fun j => if j = a.toNat then v else m j
noncomputable def round19 (xs : List Int) (ln : Int) (s : R19) : Option (X × St) := bif decide (s.k < ln) then
    (bif decide (0 ≤ s.k ∧ s.k < ln) then (bif decide (0 ≤ s.k ∧ s.k < xs.length) then (bif decide (0 ≤ adr19 s.k ∧ adr19 s.k < 65536) then
      some (X.normal, cn19 { s with m := put19 s.m (adr19 s.k) (xs.getD s.k.toNat 0), k := IntKind.i64.wrap (s.k + 1) }) else none) else none) else none)
  else some (X.exit 2, cn19 s)
theorem round19_ev : (fun ro x sp p xs ln c m z k => roundT env7 ro call7 43 sp19 (.code LB19) (cn19 ⟨gxB x sp, pB p, .ints .u8 xs 0 255, pcB 512 (slotV ss4 ln), c, m, pcV, z, k⟩)) =
    (fun _ x sp p xs ln c m z k => round19 xs ln ⟨gxB x sp, pB p, .ints .u8 xs 0 255, pcB 512 (slotV ss4 ln), c, m, pcV, z, k⟩) := by kernel_rfl
/-! ### where it leads -/
def fillF (xs : List Int) (k : Nat) (m : Mem) : Mem := fun j => if 512 + k ≤ j ∧ j < 512 + xs.length then xs.getD (j - 512) 0 else m j
theorem fillF_step {xs : List Int} {k : Nat} (h : k < xs.length) (m : Mem) : fillF xs (k + 1) (put19 m ((512 + k : Nat) : Int) (xs.getD k 0)) = fillF xs k m := by
  funext j
  unfold fillF put19
  by_cases e : j = 512 + k
  · subst e
    rw [if_neg (by omega), if_pos (by omega), if_pos (by omega)]
    congr 1; omega
  · by_cases e2 : 512 + (k + 1) ≤ j ∧ j < 512 + xs.length
    · rw [if_pos e2, if_pos (by omega)]
    · rw [if_neg e2, if_neg (by omega), if_neg (by omega)]
theorem fillF_end {xs : List Int} {k : Nat} (h : xs.length ≤ k) (m : Mem) : fillF xs k m = m := by
  funext j
  unfold fillF
  rw [if_neg (by omega)]
def P19 (s : R19) : Prop := ∃ x sp p xs c m z, ∃ k : Nat, s = ⟨gxB x sp, pB p, .ints .u8 xs 0 255, pcB 512 (slotV ss4 xs.length), c, m, pcV, z, k⟩ ∧ k ≤ xs.length ∧ xs.length ≤ 60
def nx19 (s : R19) : R19 := { s with m := fillF (xsOf s.B8) s.k.toNat s.m, k := ((xsOf s.B8).length : Nat) }
open Classical in
noncomputable def fin19 (s : R19) : Option R19 := if P19 s then some (nx19 s) else none
theorem fin19_nx (s r : R19) (h : fin19 s = some r) : r = nx19 s := by
  unfold fin19 at h
  split at h
  · injection h with h; exact h.symm
  · cases h
theorem step19 (ro : RO) (s r : R19) (h : fin19 s = some r) : (∃ s', roundT env7 ro call7 43 sp19 (.code LB19) (cn19 s) = some (.normal, cn19 s') ∧ fin19 s' = some r ∧ (100 - s'.k).toNat < (100 - s.k).toNat) ∨ roundT env7 ro call7 43 sp19 (.code LB19) (cn19 s) = some (.exit 2, cn19 r) := by
  unfold fin19 at h
  split at h <;> try (cases h; done)
  rename_i hp
  injection h with h; subst h
  obtain ⟨x, sp, p, xs, c, m, z, k, rfl, hk, hx⟩ := hp
  have hev : roundT env7 ro call7 43 sp19 (.code LB19) (cn19 ⟨gxB x sp, pB p, .ints .u8 xs 0 255, pcB 512 (slotV ss4 xs.length), c, m, pcV, z, k⟩) = _ := congrFun (congrFun (congrFun (congrFun (congrFun (congrFun (congrFun (congrFun (congrFun (congrFun round19_ev ro) x) sp) p) xs) (xs.length : Int)) c) m) z) (k : Int)
  rw [hev]
  unfold round19
  by_cases hlt : k < xs.length
  · left
    have ha : adr19 (k : Int) = ((512 + k : Nat) : Int) := by
      unfold adr19
      rw [wrap_small (by omega) (by omega), Int.tmod_eq_emod_of_nonneg (by omega)]; omega
    have hw : IntKind.i64.wrap ((k : Int) + 1) = ((k + 1 : Nat) : Int) := by rw [wrap_small (by omega) (by omega)]; omega
    refine ⟨⟨gxB x sp, pB p, .ints .u8 xs 0 255, pcB 512 (slotV ss4 xs.length), c, put19 m ((512 + k : Nat) : Int) (xs.getD k 0), pcV, z, ((k + 1 : Nat) : Int)⟩, ?_, ?_, ?_⟩
    · simp only [ha, hw]
      rw [decide_eq_true (show (k : Int) < xs.length by omega), decide_eq_true (show 0 ≤ (k : Int) ∧ (k : Int) < xs.length by omega), decide_eq_true (show 0 ≤ ((512 + k : Nat) : Int) ∧ ((512 + k : Nat) : Int) < 65536 by omega)]
      rfl
    · unfold fin19
      rw [if_pos ⟨x, sp, p, xs, c, _, z, k + 1, rfl, by omega, hx⟩]
      unfold nx19
      simp only [xsOf, Int.toNat_natCast, fillF_step hlt]
    · show (100 - ((k + 1 : Nat) : Int)).toNat < (100 - (k : Int)).toNat
      omega
  · right
    have e : k = xs.length := by omega
    rw [decide_eq_false (show ¬ (k : Int) < xs.length by omega)]
    unfold nx19
    simp only [xsOf, Int.toNat_natCast, fillF_end (show xs.length ≤ k by omega), cond_false]
    rw [← e]
noncomputable def hk19 : St → T (X × St) := loopG sp19 par19 cn19 fin19 nx19
theorem hook19 (ro : RO) : ∀ w0 F, HookOK Tryz.prog env7 w0 F ro 43 B19 hk19 := fun w0 F => by
  refine loopG_ok fin19_nx ?_
  rw [B19_eq]
  exact loopF_ok env7OK call7OK (b := .code LB19) (id := 2) (fun _ _ => trivial) cn19_canon (fun st _ => par19_eq st) (μ := fun s => (100 - s.k).toNat) (step19 ro) w0 F
/-- memory: where its one piece's bytes are no nil slice, its inner loop is told. -/
def manyB (hp : Hp) : List V → Bool
  | [.slice b _ _ _ _ _] => match hp.m.get b with
    | some (.cells [_, .slice _ _ _ _ _ _]) => true
    | _ => false
  | _ => false
noncomputable def memSum : Summ := fun ro hp args => match manyB hp args with
  | true => bodyF2 env7 10000 call7 ro Tryz.f19 (c2_19 hk19) args hp
  | false => bodyF2 env7 10000 call7 ro Tryz.f19 (.code c19) args hp
theorem c19_eq : Tryz.f19.body = some (C2.code c19).erase := by kernel_rfl
theorem memSum_at : SumAt 19 memSum := by
  intro ro hp args r hrun w0 F ρ w l hr hl
  refine ⟨Tryz.call19 _, ?_⟩
  unfold memSum at hrun
  split at hrun
  · exact bodyF2_sound env7OK call7OK Tryz.func19 (c2_19_eq hk19) ⟨trivial, trivial, ⟨trivial, trivial, ⟨trivial, hook19 ro w0 F⟩, trivial⟩, trivial⟩ hrun hr hl
  · exact bodyF2_sound env7OK call7OK Tryz.func19 c19_eq trivial hrun hr hl
noncomputable def sm9 (f : Nat) : Option Summ := match Nat.beq f 19 with
  | true => some memSum
  | false => sm7 f
theorem sm9_ok : ∀ f s, sm9 f = some s → SumAt f s := by
  intro f s h
  unfold sm9 at h
  split at h
  · rename_i e
    have e := Nat.eq_of_beq_eq_true e
    subst e
    injection h with h; subst h; exact memSum_at
  · exact sm7_ok f s h
noncomputable def env9 : Env := { env0 with sm := sm9, cls := clss }
theorem env9OK : EnvOK Tryz.prog env9 := envOK_of tysOK fnsOK mixedOK
noncomputable def call9 : CallF := evF env9 10000 1000
theorem call9OK : CallOK Tryz.prog 2 call9 := evF_ok env9OK sm9_ok 10000 1000
end Go.Proofs.YtmlfmkebljdoiaaGreatDoor
