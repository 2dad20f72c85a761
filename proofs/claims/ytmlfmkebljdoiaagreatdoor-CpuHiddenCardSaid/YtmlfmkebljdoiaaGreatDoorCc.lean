/- Own text: the acts of the processor: their summaries. -/
import Derived.Test.YtmlfmkebljdoiaaGreatDoorCx0
import Derived.Test.YtmlfmkebljdoiaaGreatDoorCx1
import Derived.Test.YtmlfmkebljdoiaaGreatDoorCx2
import Derived.Test.YtmlfmkebljdoiaaGreatDoorCx3
import Derived.Test.YtmlfmkebljdoiaaGreatDoorCy0
import Derived.Test.YtmlfmkebljdoiaaGreatDoorCy1
namespace Go.Proofs.YtmlfmkebljdoiaaGreatDoor
open Go.Ev Go.Ev.Tr Go.Proofs
set_option maxRecDepth 1000000
theorem normC_under : ∀ {ss : List CS} {vs us : List V}, normC ss vs = some us → unders 0 vs = true
  | [], [], us, h => rfl
  | [], _ :: _, _, h => by cases h
  | _ :: _, [], _, h => by cases h
  | s :: ss, v :: vs, us, h => by
    unfold normC at h
    split at h <;> try contradiction
    rename_i u hu
    split at h <;> try contradiction
    rename_i us' hus
    simp only [unders, Bool.and_eq_true]
    refine ⟨?_, normC_under hus⟩
    unfold norm1C at hu
    split at hu <;> first | rfl | contradiction
def retA (r : ActR) : V := .tup [.agg [ci r.w.k 0 2, w16 r.w.a, b8 r.w.d], .sbool r.done]
theorem viewA_sound {M : Int} {v : V} {hp' : Hp} {r : ActR} (h : viewA M (.ret v, hp') = some r) : V.under 0 v = true ∧ (∀ (ρ : Ren) x, VR ρ v x → VR ρ (retA r) x) ∧
    ∃ cs', hp'.m.get 2 = some (.cells cs') ∧ (∀ (ρ : Ren) l, VRs ρ cs' l → VRs ρ (enc M r.c) l) := by
  unfold viewA at h
  simp only at h
  split at h <;> try contradiction
  rename_i cs hcs
  split at h <;> try contradiction
  rename_i us hus
  split at h <;> try contradiction
  rename_i x y z q
  split at h <;> try contradiction
  rename_i vs hvs
  injection h with h; subst h
  have hu := normC_under hvs
  simp only [unders, Bool.and_eq_true, and_true] at hu
  obtain ⟨u1, u2, u3, u4⟩ := hu
  refine ⟨by simp only [V.under, unders, u1, u2, u3, u4, Bool.and_self], ?_, cs, hcs, fun ρ l hl => ?_⟩
  · rintro ρ w ⟨l, rfl, a, l1, rfl, ⟨m, rfl, x1, m1, rfl, hx, x2, m2, rfl, hy, x3, m3, rfl, hz, hm⟩, b, l2, rfl, hq, hl2⟩
    simp only [VRs] at hm hl2
    subst hm; subst hl2
    have hn := normC_VR (ρ := ρ) (l := [x1, x2, x3, b]) hvs ⟨_, _, rfl, hx, _, _, rfl, hy, _, _, rfl, hz, _, _, rfl, hq, rfl⟩
    obtain ⟨n1, _, rfl, n2, _, rfl, n3, _, rfl, b1, _, rfl, hvs'⟩ := normC_shape hvs
    simp only [Shape] at hvs'; subst hvs'
    obtain ⟨_, _, e1, h1, _, _, e2, h2, _, _, e3, h3, _, _, e4, h4, _⟩ := hn
    simp only [List.cons.injEq] at e1 e2 e3 e4
    obtain ⟨rfl, rfl⟩ := e1
    obtain ⟨rfl, rfl⟩ := e2
    obtain ⟨rfl, rfl⟩ := e3
    obtain ⟨rfl, rfl⟩ := e4
    exact ⟨_, rfl, _, _, rfl, ⟨_, rfl, _, _, rfl, h1, _, _, rfl, h2, _, _, rfl, h3, rfl⟩, _, _, rfl, h4, rfl⟩
  · show VRs ρ (enc M (cpuOf us)) l
    rw [← enc_of (normC_shape hus)]; exact normC_VR hus hl
theorem evA_sound {M : Int} {f : Nat} {op sub step d : V} {c : Cpu} {r : ActR} (h : evA M f op sub step d c = some r) :
    ∃ v hp', (call1 ro0 f [.ptr 2 (I.lit 0), d] (hpL 2 1000000 [.cells (encX c (ci c.cur.St 0 3) (.sbool c.mid) (.sbool c.disp) op sub step)])).run = some (.ret v, hp') ∧ viewA M (.ret v, hp') = some r := by
  unfold evA at h
  obtain ⟨⟨e, hp'⟩, h1, h2⟩ := T.run_bind_some h
  rw [T.run_ofOpt] at h2
  cases e with
  | pan v => simp [viewA] at h2
  | ret v => exact ⟨v, hp', h1, h2⟩
/-! ### the cycles behind the last one -/
theorem rowTab_le (op : Nat) : rowTab.getD op 0 ≤ 28 := by
  rcases Nat.lt_or_ge op 256 with h | h
  · have := allN_get (p := fun k => Nat.ble (rowTab.getD k 0) 28) (n := 256) (k := 0) (by decide +kernel) op h
    simp only [Nat.zero_add] at this
    exact Nat.le_of_ble_eq_true this
  · rw [List.getD_eq_getElem?_getD, List.getElem?_eq_none (by simpa [rowTab] using h)]; simp
theorem two_cap {c : Cpu} {d s : Int} (h : 3 ≤ s) : two c d s = ⟨c, idleW, false⟩ := by
  unfold two
  rw [show (s == 0) = false by simp; omega, show (s == 1) = false by simp; omega, show (s == 2) = false by simp; omega]; rfl
theorem backFrom_cap {c : Cpu} {d s : Int} (h : 3 ≤ s) : backFromM c d s = ⟨updCur c { c.cur with PC := wordM c, SP := (c.cur.SP + 2) % 65536 }, idleW, true⟩ := by
  unfold backFromM
  rw [show (s == 0) = false by simp; omega, show (s == 1) = false by simp; omega, show (s == 2) = false by simp; omega]; rfl
theorem pushing_cap {c : Cpu} {s v : Int} (h : 3 ≤ s) : pushingM c s v = ⟨updCur c { c.cur with SP := (c.cur.SP - 2) % 65536 }, idleW, false⟩ := by
  unfold pushingM
  rw [show (s == 0) = false by simp; omega, show (s == 1) = false by simp; omega, show (s == 2) = false by simp; omega]; rfl
theorem ne_of_ge {s : Int} {k n : Int} (h : k ≤ s) (hn : n < k) : (s == n) = false := by simp; omega
theorem act_cap {op : Nat} {c : Cpu} {d s : Int} (h : (capOf op : Int) ≤ s) : actM op c d s = actM op c d (capOf op) := by
  have hle := rowTab_le op
  unfold capOf at *
  generalize hcl : rowTab.getD op 0 = cl at *
  unfold actM
  rw [hcl]
  have hc : cl = 0 ∨ cl = 1 ∨ cl = 2 ∨ cl = 3 ∨ cl = 4 ∨ cl = 5 ∨ cl = 6 ∨ cl = 7 ∨ cl = 8 ∨ cl = 9 ∨ cl = 10 ∨ cl = 11 ∨ cl = 12 ∨ cl = 13 ∨ cl = 14 ∨ cl = 15 ∨ cl = 16 ∨ cl = 17 ∨ cl = 18 ∨ cl = 19 ∨ cl = 20 ∨ cl = 21 ∨ cl = 22 ∨ cl = 23 ∨ cl = 24 ∨ cl = 25 ∨ cl = 26 ∨ cl = 27 ∨ cl = 28 := by omega
  rcases hc with rfl | rfl | rfl | rfl | rfl | rfl | rfl | rfl | rfl | rfl | rfl | rfl | rfl | rfl | rfl | rfl | rfl | rfl | rfl | rfl | rfl | rfl | rfl | rfl | rfl | rfl | rfl | rfl | rfl
  · have h : (0 : Int) ≤ s := h
    rfl
  · have h : (3 : Int) ≤ s := h
    simp only [loadA, two_cap h]; rfl
  · have h : (1 : Int) ≤ s := h
    simp only [putA, ne_of_ge h (show (0 : Int) < 1 by omega)]; rfl
  · have h : (1 : Int) ≤ s := h
    simp only [countPairA, ne_of_ge h (show (0 : Int) < 1 by omega)]; rfl
  · have h : (2 : Int) ≤ s := h
    have h2 : decide ((2 : Int) ≤ s) = true := by simpa using h
    simp only [countA, ne_of_ge h (show (0 : Int) < 2 by omega), h2]; rfl
  · have h : (2 : Int) ≤ s := h
    simp only [fillA, ne_of_ge h (show (0 : Int) < 2 by omega), ne_of_ge h (show (1 : Int) < 2 by omega)]; rfl
  · have h : (0 : Int) ≤ s := h
    rfl
  · have h : (5 : Int) ≤ s := h
    simp only [putStackA, two_cap (show (3 : Int) ≤ s by omega), ne_of_ge h (show (2 : Int) < 5 by omega), ne_of_ge h (show (3 : Int) < 5 by omega)]; rfl
  · have h : (1 : Int) ≤ s := h
    simp only [addPairA, ne_of_ge h (show (0 : Int) < 1 by omega)]; rfl
  · have h : (1 : Int) ≤ s := h
    simp only [getA, ne_of_ge h (show (0 : Int) < 1 by omega)]; rfl
  · have h : (1 : Int) ≤ s := h
    simp only [stoppingA, ne_of_ge h (show (0 : Int) < 1 by omega)]; rfl
  · have h : (2 : Int) ≤ s := h
    simp only [nearA, ne_of_ge h (show (0 : Int) < 2 by omega), ne_of_ge h (show (1 : Int) < 2 by omega)]; rfl
  · have h : (4 : Int) ≤ s := h
    simp only [backIfA, ne_of_ge h (show (0 : Int) < 4 by omega), ne_of_ge h (show (1 : Int) < 4 by omega), backFrom_cap (show (3 : Int) ≤ s - 1 by omega)]; rfl
  · have h : (2 : Int) ≤ s := h
    simp only [popA, ne_of_ge h (show (0 : Int) < 2 by omega), ne_of_ge h (show (1 : Int) < 2 by omega)]; rfl
  · have h : (3 : Int) ≤ s := h
    simp only [jumpA, two_cap h, ne_of_ge h (show (2 : Int) < 3 by omega)]; rfl
  · have h : (5 : Int) ≤ s := h
    simp only [callA, callEnd, two_cap (show (3 : Int) ≤ s by omega), ne_of_ge h (show (2 : Int) < 5 by omega), pushing_cap (show (3 : Int) ≤ s - 2 by omega)]; rfl
  · have h : (3 : Int) ≤ s := h
    simp only [pushA, pushing_cap h]; rfl
  · have h : (1 : Int) ≤ s := h
    simp only [reckonByteA, ne_of_ge h (show (0 : Int) < 1 by omega)]; rfl
  · have h : (3 : Int) ≤ s := h
    simp only [resetA, pushing_cap h]; rfl
  · have h : (3 : Int) ≤ s := h
    simp only [backA, backFrom_cap h]; rfl
  · have h : (3 : Int) ≤ s := h
    have h2 : decide ((2 : Int) < s) = true := by simp; omega
    simp only [secondA, ne_of_ge h (show (0 : Int) < 3 by omega), ne_of_ge h (show (1 : Int) < 3 by omega), h2]; rfl
  · have h : (2 : Int) ≤ s := h
    simp only [highByteA, ne_of_ge h (show (0 : Int) < 2 by omega), ne_of_ge h (show (1 : Int) < 2 by omega)]; rfl
  · have h : (1 : Int) ≤ s := h
    simp only [highPortA, ne_of_ge h (show (0 : Int) < 1 by omega)]; rfl
  · have h : (3 : Int) ≤ s := h
    simp only [offsetA, ne_of_ge h (show (0 : Int) < 3 by omega), ne_of_ge h (show (1 : Int) < 3 by omega), ne_of_ge h (show (2 : Int) < 3 by omega)]; rfl
  · have h : (0 : Int) ≤ s := h
    rfl
  · have h : (3 : Int) ≤ s := h
    simp only [farA, two_cap h, ne_of_ge h (show (2 : Int) < 3 by omega)]; rfl
  · have h : (1 : Int) ≤ s := h
    simp only [stackA, ne_of_ge h (show (0 : Int) < 1 by omega)]; rfl
  · have h : (1 : Int) ≤ s := h
    simp only [moveA, ne_of_ge h (show (0 : Int) < 1 by omega)]; rfl
  · have h : (1 : Int) ≤ s := h
    simp only [reckonA, ne_of_ge h (show (0 : Int) < 1 by omega)]; rfl
/-! ### the acts told -/
noncomputable def actR (c : Cpu) (d : Int) : ActR := actM c.op.toNat c d c.step
def n0 (ns : List Int) : Int := ns.getD 0 0
def n1 (ns : List Int) : Int := ns.getD 1 0
def opLit (cs : List V) : Option Nat := match cs.getD 29 .any with
  | .int _ i => litI i
  | _ => none
def chkAct (cl : Nat) (cs : List V) : Bool := match opLit cs with
  | some op => Nat.ble (op + 1) 256 && Nat.beq (rowTab.getD op 0) cl
  | none => false
noncomputable def actFn (cl : Nat) : CFn := { f := 83 + cl, N := 9, M := 9, rng := [(0, 255)], chk := chkAct cl, out := fun c ns => (actR c (n0 ns)).c, ret := fun c ns => retA (actR c (n0 ns)) }
theorem opLit_sound {N : Int} {cs us : List V} {ρ : Ren} {l : List Value} {op : Nat} (hn : normC (cspec N) cs = some us) (ho : opLit cs = some op) (hv : VRs ρ cs l) : (cpuOf us).op = op := by
  unfold opLit at ho
  have hu := normC_VR hn hv
  rw [enc_of (normC_shape hn)] at hu
  generalize cpuOf us = c at hu
  split at ho <;> try contradiction
  rename_i k i hi
  have h29 : cs[29]? = some (.int k i) := by
    rw [List.getD_eq_getElem?_getD] at hi
    cases h : cs[29]? with
    | none => rw [h] at hi; cases hi
    | some x => rw [h] at hi; simp only [Option.getD_some] at hi; rw [hi]
  obtain ⟨x, hx, n, rfl, hn1⟩ := VRs.get hv h29
  have e29 : (enc N c)[29]? = some (b8 c.op) := rfl
  obtain ⟨y, hy, m, rfl, hm⟩ := VRs.get hu e29
  rw [hx] at hy
  injection hy with hy; injection hy with _ hy; subst hy
  have := hm.1
  simp only at this
  rw [← this]
  exact litI_int ho hn1
theorem sub_of {n lo hi : Int} {m : Nat} {ρ : Ren} (h : n = m) : ∀ x, VR ρ (ci n lo hi) x → VR ρ (litV m) x := lit_of h
def acts (k : Nat) : List Nat := (List.range' (8 * k) 8).filter (· != 203)
theorem act_all : ∀ op, op < 256 → op ≠ 203 → ∀ c d, lhs op c d = rhs op c d := by
  intro op h1 h2 c d
  by_cases h0 : op < 8
  · exact List.map_inj_left.1 (congrFun (congrFun actC0 c) d) op (by
    have : op = 0 ∨ op = 1 ∨ op = 2 ∨ op = 3 ∨ op = 4 ∨ op = 5 ∨ op = 6 ∨ op = 7 := by omega
    rcases this with rfl | rfl | rfl | rfl | rfl | rfl | rfl | rfl <;> simp)
  by_cases h1 : op < 16
  · exact List.map_inj_left.1 (congrFun (congrFun actC1 c) d) op (by
    have : op = 8 ∨ op = 9 ∨ op = 10 ∨ op = 11 ∨ op = 12 ∨ op = 13 ∨ op = 14 ∨ op = 15 := by omega
    rcases this with rfl | rfl | rfl | rfl | rfl | rfl | rfl | rfl <;> simp)
  by_cases h2 : op < 24
  · exact List.map_inj_left.1 (congrFun (congrFun actC2 c) d) op (by
    have : op = 16 ∨ op = 17 ∨ op = 18 ∨ op = 19 ∨ op = 20 ∨ op = 21 ∨ op = 22 ∨ op = 23 := by omega
    rcases this with rfl | rfl | rfl | rfl | rfl | rfl | rfl | rfl <;> simp)
  by_cases h3 : op < 32
  · exact List.map_inj_left.1 (congrFun (congrFun actC3 c) d) op (by
    have : op = 24 ∨ op = 25 ∨ op = 26 ∨ op = 27 ∨ op = 28 ∨ op = 29 ∨ op = 30 ∨ op = 31 := by omega
    rcases this with rfl | rfl | rfl | rfl | rfl | rfl | rfl | rfl <;> simp)
  by_cases h4 : op < 40
  · exact List.map_inj_left.1 (congrFun (congrFun actC4 c) d) op (by
    have : op = 32 ∨ op = 33 ∨ op = 34 ∨ op = 35 ∨ op = 36 ∨ op = 37 ∨ op = 38 ∨ op = 39 := by omega
    rcases this with rfl | rfl | rfl | rfl | rfl | rfl | rfl | rfl <;> simp)
  by_cases h5 : op < 48
  · exact List.map_inj_left.1 (congrFun (congrFun actC5 c) d) op (by
    have : op = 40 ∨ op = 41 ∨ op = 42 ∨ op = 43 ∨ op = 44 ∨ op = 45 ∨ op = 46 ∨ op = 47 := by omega
    rcases this with rfl | rfl | rfl | rfl | rfl | rfl | rfl | rfl <;> simp)
  by_cases h6 : op < 56
  · exact List.map_inj_left.1 (congrFun (congrFun actC6 c) d) op (by
    have : op = 48 ∨ op = 49 ∨ op = 50 ∨ op = 51 ∨ op = 52 ∨ op = 53 ∨ op = 54 ∨ op = 55 := by omega
    rcases this with rfl | rfl | rfl | rfl | rfl | rfl | rfl | rfl <;> simp)
  by_cases h7 : op < 64
  · exact List.map_inj_left.1 (congrFun (congrFun actC7 c) d) op (by
    have : op = 56 ∨ op = 57 ∨ op = 58 ∨ op = 59 ∨ op = 60 ∨ op = 61 ∨ op = 62 ∨ op = 63 := by omega
    rcases this with rfl | rfl | rfl | rfl | rfl | rfl | rfl | rfl <;> simp)
  by_cases h8 : op < 72
  · exact List.map_inj_left.1 (congrFun (congrFun actC8 c) d) op (by
    have : op = 64 ∨ op = 65 ∨ op = 66 ∨ op = 67 ∨ op = 68 ∨ op = 69 ∨ op = 70 ∨ op = 71 := by omega
    rcases this with rfl | rfl | rfl | rfl | rfl | rfl | rfl | rfl <;> simp)
  by_cases h9 : op < 80
  · exact List.map_inj_left.1 (congrFun (congrFun actC9 c) d) op (by
    have : op = 72 ∨ op = 73 ∨ op = 74 ∨ op = 75 ∨ op = 76 ∨ op = 77 ∨ op = 78 ∨ op = 79 := by omega
    rcases this with rfl | rfl | rfl | rfl | rfl | rfl | rfl | rfl <;> simp)
  by_cases h10 : op < 88
  · exact List.map_inj_left.1 (congrFun (congrFun actC10 c) d) op (by
    have : op = 80 ∨ op = 81 ∨ op = 82 ∨ op = 83 ∨ op = 84 ∨ op = 85 ∨ op = 86 ∨ op = 87 := by omega
    rcases this with rfl | rfl | rfl | rfl | rfl | rfl | rfl | rfl <;> simp)
  by_cases h11 : op < 96
  · exact List.map_inj_left.1 (congrFun (congrFun actC11 c) d) op (by
    have : op = 88 ∨ op = 89 ∨ op = 90 ∨ op = 91 ∨ op = 92 ∨ op = 93 ∨ op = 94 ∨ op = 95 := by omega
    rcases this with rfl | rfl | rfl | rfl | rfl | rfl | rfl | rfl <;> simp)
  by_cases h12 : op < 104
  · exact List.map_inj_left.1 (congrFun (congrFun actC12 c) d) op (by
    have : op = 96 ∨ op = 97 ∨ op = 98 ∨ op = 99 ∨ op = 100 ∨ op = 101 ∨ op = 102 ∨ op = 103 := by omega
    rcases this with rfl | rfl | rfl | rfl | rfl | rfl | rfl | rfl <;> simp)
  by_cases h13 : op < 112
  · exact List.map_inj_left.1 (congrFun (congrFun actC13 c) d) op (by
    have : op = 104 ∨ op = 105 ∨ op = 106 ∨ op = 107 ∨ op = 108 ∨ op = 109 ∨ op = 110 ∨ op = 111 := by omega
    rcases this with rfl | rfl | rfl | rfl | rfl | rfl | rfl | rfl <;> simp)
  by_cases h14 : op < 120
  · exact List.map_inj_left.1 (congrFun (congrFun actC14 c) d) op (by
    have : op = 112 ∨ op = 113 ∨ op = 114 ∨ op = 115 ∨ op = 116 ∨ op = 117 ∨ op = 118 ∨ op = 119 := by omega
    rcases this with rfl | rfl | rfl | rfl | rfl | rfl | rfl | rfl <;> simp)
  by_cases h15 : op < 128
  · exact List.map_inj_left.1 (congrFun (congrFun actC15 c) d) op (by
    have : op = 120 ∨ op = 121 ∨ op = 122 ∨ op = 123 ∨ op = 124 ∨ op = 125 ∨ op = 126 ∨ op = 127 := by omega
    rcases this with rfl | rfl | rfl | rfl | rfl | rfl | rfl | rfl <;> simp)
  by_cases h16 : op < 136
  · exact List.map_inj_left.1 (congrFun (congrFun actC16 c) d) op (by
    have : op = 128 ∨ op = 129 ∨ op = 130 ∨ op = 131 ∨ op = 132 ∨ op = 133 ∨ op = 134 ∨ op = 135 := by omega
    rcases this with rfl | rfl | rfl | rfl | rfl | rfl | rfl | rfl <;> simp)
  by_cases h17 : op < 144
  · exact List.map_inj_left.1 (congrFun (congrFun actC17 c) d) op (by
    have : op = 136 ∨ op = 137 ∨ op = 138 ∨ op = 139 ∨ op = 140 ∨ op = 141 ∨ op = 142 ∨ op = 143 := by omega
    rcases this with rfl | rfl | rfl | rfl | rfl | rfl | rfl | rfl <;> simp)
  by_cases h18 : op < 152
  · exact List.map_inj_left.1 (congrFun (congrFun actC18 c) d) op (by
    have : op = 144 ∨ op = 145 ∨ op = 146 ∨ op = 147 ∨ op = 148 ∨ op = 149 ∨ op = 150 ∨ op = 151 := by omega
    rcases this with rfl | rfl | rfl | rfl | rfl | rfl | rfl | rfl <;> simp)
  by_cases h19 : op < 160
  · exact List.map_inj_left.1 (congrFun (congrFun actC19 c) d) op (by
    have : op = 152 ∨ op = 153 ∨ op = 154 ∨ op = 155 ∨ op = 156 ∨ op = 157 ∨ op = 158 ∨ op = 159 := by omega
    rcases this with rfl | rfl | rfl | rfl | rfl | rfl | rfl | rfl <;> simp)
  by_cases h20 : op < 168
  · exact List.map_inj_left.1 (congrFun (congrFun actC20 c) d) op (by
    have : op = 160 ∨ op = 161 ∨ op = 162 ∨ op = 163 ∨ op = 164 ∨ op = 165 ∨ op = 166 ∨ op = 167 := by omega
    rcases this with rfl | rfl | rfl | rfl | rfl | rfl | rfl | rfl <;> simp)
  by_cases h21 : op < 176
  · exact List.map_inj_left.1 (congrFun (congrFun actC21 c) d) op (by
    have : op = 168 ∨ op = 169 ∨ op = 170 ∨ op = 171 ∨ op = 172 ∨ op = 173 ∨ op = 174 ∨ op = 175 := by omega
    rcases this with rfl | rfl | rfl | rfl | rfl | rfl | rfl | rfl <;> simp)
  by_cases h22 : op < 184
  · exact List.map_inj_left.1 (congrFun (congrFun actC22 c) d) op (by
    have : op = 176 ∨ op = 177 ∨ op = 178 ∨ op = 179 ∨ op = 180 ∨ op = 181 ∨ op = 182 ∨ op = 183 := by omega
    rcases this with rfl | rfl | rfl | rfl | rfl | rfl | rfl | rfl <;> simp)
  by_cases h23 : op < 192
  · exact List.map_inj_left.1 (congrFun (congrFun actC23 c) d) op (by
    have : op = 184 ∨ op = 185 ∨ op = 186 ∨ op = 187 ∨ op = 188 ∨ op = 189 ∨ op = 190 ∨ op = 191 := by omega
    rcases this with rfl | rfl | rfl | rfl | rfl | rfl | rfl | rfl <;> simp)
  by_cases h24 : op < 200
  · exact List.map_inj_left.1 (congrFun (congrFun actC24 c) d) op (by
    have : op = 192 ∨ op = 193 ∨ op = 194 ∨ op = 195 ∨ op = 196 ∨ op = 197 ∨ op = 198 ∨ op = 199 := by omega
    rcases this with rfl | rfl | rfl | rfl | rfl | rfl | rfl | rfl <;> simp)
  by_cases h25 : op < 208
  · exact List.map_inj_left.1 (congrFun (congrFun actC25 c) d) op (by
    have : op = 200 ∨ op = 201 ∨ op = 202 ∨ op = 204 ∨ op = 205 ∨ op = 206 ∨ op = 207 := by omega
    rcases this with rfl | rfl | rfl | rfl | rfl | rfl | rfl <;> simp)
  by_cases h26 : op < 216
  · exact List.map_inj_left.1 (congrFun (congrFun actC26 c) d) op (by
    have : op = 208 ∨ op = 209 ∨ op = 210 ∨ op = 211 ∨ op = 212 ∨ op = 213 ∨ op = 214 ∨ op = 215 := by omega
    rcases this with rfl | rfl | rfl | rfl | rfl | rfl | rfl | rfl <;> simp)
  by_cases h27 : op < 224
  · exact List.map_inj_left.1 (congrFun (congrFun actC27 c) d) op (by
    have : op = 216 ∨ op = 217 ∨ op = 218 ∨ op = 219 ∨ op = 220 ∨ op = 221 ∨ op = 222 ∨ op = 223 := by omega
    rcases this with rfl | rfl | rfl | rfl | rfl | rfl | rfl | rfl <;> simp)
  by_cases h28 : op < 232
  · exact List.map_inj_left.1 (congrFun (congrFun actC28 c) d) op (by
    have : op = 224 ∨ op = 225 ∨ op = 226 ∨ op = 227 ∨ op = 228 ∨ op = 229 ∨ op = 230 ∨ op = 231 := by omega
    rcases this with rfl | rfl | rfl | rfl | rfl | rfl | rfl | rfl <;> simp)
  by_cases h29 : op < 240
  · exact List.map_inj_left.1 (congrFun (congrFun actC29 c) d) op (by
    have : op = 232 ∨ op = 233 ∨ op = 234 ∨ op = 235 ∨ op = 236 ∨ op = 237 ∨ op = 238 ∨ op = 239 := by omega
    rcases this with rfl | rfl | rfl | rfl | rfl | rfl | rfl | rfl <;> simp)
  by_cases h30 : op < 248
  · exact List.map_inj_left.1 (congrFun (congrFun actC30 c) d) op (by
    have : op = 240 ∨ op = 241 ∨ op = 242 ∨ op = 243 ∨ op = 244 ∨ op = 245 ∨ op = 246 ∨ op = 247 := by omega
    rcases this with rfl | rfl | rfl | rfl | rfl | rfl | rfl | rfl <;> simp)
  by_cases h31 : op < 256
  · exact List.map_inj_left.1 (congrFun (congrFun actC31 c) d) op (by
    have : op = 248 ∨ op = 249 ∨ op = 250 ∨ op = 251 ∨ op = 252 ∨ op = 253 ∨ op = 254 ∨ op = 255 := by omega
    rcases this with rfl | rfl | rfl | rfl | rfl | rfl | rfl | rfl <;> simp)
  omega
theorem snd1_all : ∀ n, n < 256 → ∀ c, lhs1 n c = rhs1 n c := by
  intro n h1 c
  by_cases h0 : n < 8
  · exact List.map_inj_left.1 (congrFun snd1C0 c) n (by simp; omega)
  by_cases h1 : n < 16
  · exact List.map_inj_left.1 (congrFun snd1C1 c) n (by simp; omega)
  by_cases h2 : n < 24
  · exact List.map_inj_left.1 (congrFun snd1C2 c) n (by simp; omega)
  by_cases h3 : n < 32
  · exact List.map_inj_left.1 (congrFun snd1C3 c) n (by simp; omega)
  by_cases h4 : n < 40
  · exact List.map_inj_left.1 (congrFun snd1C4 c) n (by simp; omega)
  by_cases h5 : n < 48
  · exact List.map_inj_left.1 (congrFun snd1C5 c) n (by simp; omega)
  by_cases h6 : n < 56
  · exact List.map_inj_left.1 (congrFun snd1C6 c) n (by simp; omega)
  by_cases h7 : n < 64
  · exact List.map_inj_left.1 (congrFun snd1C7 c) n (by simp; omega)
  by_cases h8 : n < 72
  · exact List.map_inj_left.1 (congrFun snd1C8 c) n (by simp; omega)
  by_cases h9 : n < 80
  · exact List.map_inj_left.1 (congrFun snd1C9 c) n (by simp; omega)
  by_cases h10 : n < 88
  · exact List.map_inj_left.1 (congrFun snd1C10 c) n (by simp; omega)
  by_cases h11 : n < 96
  · exact List.map_inj_left.1 (congrFun snd1C11 c) n (by simp; omega)
  by_cases h12 : n < 104
  · exact List.map_inj_left.1 (congrFun snd1C12 c) n (by simp; omega)
  by_cases h13 : n < 112
  · exact List.map_inj_left.1 (congrFun snd1C13 c) n (by simp; omega)
  by_cases h14 : n < 120
  · exact List.map_inj_left.1 (congrFun snd1C14 c) n (by simp; omega)
  by_cases h15 : n < 128
  · exact List.map_inj_left.1 (congrFun snd1C15 c) n (by simp; omega)
  by_cases h16 : n < 136
  · exact List.map_inj_left.1 (congrFun snd1C16 c) n (by simp; omega)
  by_cases h17 : n < 144
  · exact List.map_inj_left.1 (congrFun snd1C17 c) n (by simp; omega)
  by_cases h18 : n < 152
  · exact List.map_inj_left.1 (congrFun snd1C18 c) n (by simp; omega)
  by_cases h19 : n < 160
  · exact List.map_inj_left.1 (congrFun snd1C19 c) n (by simp; omega)
  by_cases h20 : n < 168
  · exact List.map_inj_left.1 (congrFun snd1C20 c) n (by simp; omega)
  by_cases h21 : n < 176
  · exact List.map_inj_left.1 (congrFun snd1C21 c) n (by simp; omega)
  by_cases h22 : n < 184
  · exact List.map_inj_left.1 (congrFun snd1C22 c) n (by simp; omega)
  by_cases h23 : n < 192
  · exact List.map_inj_left.1 (congrFun snd1C23 c) n (by simp; omega)
  by_cases h24 : n < 200
  · exact List.map_inj_left.1 (congrFun snd1C24 c) n (by simp; omega)
  by_cases h25 : n < 208
  · exact List.map_inj_left.1 (congrFun snd1C25 c) n (by simp; omega)
  by_cases h26 : n < 216
  · exact List.map_inj_left.1 (congrFun snd1C26 c) n (by simp; omega)
  by_cases h27 : n < 224
  · exact List.map_inj_left.1 (congrFun snd1C27 c) n (by simp; omega)
  by_cases h28 : n < 232
  · exact List.map_inj_left.1 (congrFun snd1C28 c) n (by simp; omega)
  by_cases h29 : n < 240
  · exact List.map_inj_left.1 (congrFun snd1C29 c) n (by simp; omega)
  by_cases h30 : n < 248
  · exact List.map_inj_left.1 (congrFun snd1C30 c) n (by simp; omega)
  by_cases h31 : n < 256
  · exact List.map_inj_left.1 (congrFun snd1C31 c) n (by simp; omega)
  omega
theorem snd2_all : ∀ n, n < 256 → ∀ c d, lhs2 n c d = rhs2 n c d := by
  intro n h1 c d
  by_cases h0 : n < 8
  · exact List.map_inj_left.1 (congrFun (congrFun snd2C0 c) d) n (by simp; omega)
  by_cases h1 : n < 16
  · exact List.map_inj_left.1 (congrFun (congrFun snd2C1 c) d) n (by simp; omega)
  by_cases h2 : n < 24
  · exact List.map_inj_left.1 (congrFun (congrFun snd2C2 c) d) n (by simp; omega)
  by_cases h3 : n < 32
  · exact List.map_inj_left.1 (congrFun (congrFun snd2C3 c) d) n (by simp; omega)
  by_cases h4 : n < 40
  · exact List.map_inj_left.1 (congrFun (congrFun snd2C4 c) d) n (by simp; omega)
  by_cases h5 : n < 48
  · exact List.map_inj_left.1 (congrFun (congrFun snd2C5 c) d) n (by simp; omega)
  by_cases h6 : n < 56
  · exact List.map_inj_left.1 (congrFun (congrFun snd2C6 c) d) n (by simp; omega)
  by_cases h7 : n < 64
  · exact List.map_inj_left.1 (congrFun (congrFun snd2C7 c) d) n (by simp; omega)
  by_cases h8 : n < 72
  · exact List.map_inj_left.1 (congrFun (congrFun snd2C8 c) d) n (by simp; omega)
  by_cases h9 : n < 80
  · exact List.map_inj_left.1 (congrFun (congrFun snd2C9 c) d) n (by simp; omega)
  by_cases h10 : n < 88
  · exact List.map_inj_left.1 (congrFun (congrFun snd2C10 c) d) n (by simp; omega)
  by_cases h11 : n < 96
  · exact List.map_inj_left.1 (congrFun (congrFun snd2C11 c) d) n (by simp; omega)
  by_cases h12 : n < 104
  · exact List.map_inj_left.1 (congrFun (congrFun snd2C12 c) d) n (by simp; omega)
  by_cases h13 : n < 112
  · exact List.map_inj_left.1 (congrFun (congrFun snd2C13 c) d) n (by simp; omega)
  by_cases h14 : n < 120
  · exact List.map_inj_left.1 (congrFun (congrFun snd2C14 c) d) n (by simp; omega)
  by_cases h15 : n < 128
  · exact List.map_inj_left.1 (congrFun (congrFun snd2C15 c) d) n (by simp; omega)
  by_cases h16 : n < 136
  · exact List.map_inj_left.1 (congrFun (congrFun snd2C16 c) d) n (by simp; omega)
  by_cases h17 : n < 144
  · exact List.map_inj_left.1 (congrFun (congrFun snd2C17 c) d) n (by simp; omega)
  by_cases h18 : n < 152
  · exact List.map_inj_left.1 (congrFun (congrFun snd2C18 c) d) n (by simp; omega)
  by_cases h19 : n < 160
  · exact List.map_inj_left.1 (congrFun (congrFun snd2C19 c) d) n (by simp; omega)
  by_cases h20 : n < 168
  · exact List.map_inj_left.1 (congrFun (congrFun snd2C20 c) d) n (by simp; omega)
  by_cases h21 : n < 176
  · exact List.map_inj_left.1 (congrFun (congrFun snd2C21 c) d) n (by simp; omega)
  by_cases h22 : n < 184
  · exact List.map_inj_left.1 (congrFun (congrFun snd2C22 c) d) n (by simp; omega)
  by_cases h23 : n < 192
  · exact List.map_inj_left.1 (congrFun (congrFun snd2C23 c) d) n (by simp; omega)
  by_cases h24 : n < 200
  · exact List.map_inj_left.1 (congrFun (congrFun snd2C24 c) d) n (by simp; omega)
  by_cases h25 : n < 208
  · exact List.map_inj_left.1 (congrFun (congrFun snd2C25 c) d) n (by simp; omega)
  by_cases h26 : n < 216
  · exact List.map_inj_left.1 (congrFun (congrFun snd2C26 c) d) n (by simp; omega)
  by_cases h27 : n < 224
  · exact List.map_inj_left.1 (congrFun (congrFun snd2C27 c) d) n (by simp; omega)
  by_cases h28 : n < 232
  · exact List.map_inj_left.1 (congrFun (congrFun snd2C28 c) d) n (by simp; omega)
  by_cases h29 : n < 240
  · exact List.map_inj_left.1 (congrFun (congrFun snd2C29 c) d) n (by simp; omega)
  by_cases h30 : n < 248
  · exact List.map_inj_left.1 (congrFun (congrFun snd2C30 c) d) n (by simp; omega)
  by_cases h31 : n < 256
  · exact List.map_inj_left.1 (congrFun (congrFun snd2C31 c) d) n (by simp; omega)
  omega
theorem act_run {c : Cpu} {d : Int} (hin : InB 9 c) (hd : 0 ≤ d ∧ d ≤ 255) : ∃ op' sub' step' d', unders 0 [op', sub', step', d'] = true ∧ evA 9 (83 + rowTab.getD c.op.toNat 0) op' sub' step' d' c = some (actR c d) ∧
    (∀ (ρ : Ren) x, VR ρ (b8 c.op) x → VR ρ op' x) ∧ (∀ (ρ : Ren) x, VR ρ (b8 c.sub) x → VR ρ sub' x) ∧ (∀ (ρ : Ren) x, VR ρ (ci c.step 0 9) x → VR ρ step' x) ∧ (∀ (ρ : Ren) x, VR ρ (b8 d) x → VR ρ d' x) := by
  have ho := hin.op
  have hst := hin.step
  have hsb := hin.sub
  obtain ⟨op, hop⟩ : ∃ op : Nat, c.op = op := ⟨c.op.toNat, by omega⟩
  have hop2 : c.op.toNat = op := by omega
  have idx : ∀ {α β : Type} {f g : α → β} {l : List α}, l.map f = l.map g → ∀ a ∈ l, f a = g a := fun h => List.map_inj_left.1 h
  have ec : ({ c with op := (op : Int) } : Cpu) = c := by rw [← hop]
  by_cases h203 : op = 203
  · subst h203
    have ec2 : ({ c with op := 203 } : Cpu) = c := ec
    have er : 83 + rowTab.getD c.op.toNat 0 = 103 := by rw [hop2]; rfl
    have eR : actR c d = actM 203 c d c.step := by unfold actR; rw [hop2]
    rw [er, eR]
    have l203 : ∀ (ρ : Ren) x, VR ρ (b8 c.op) x → VR ρ (litV (203 : Nat)) x := fun ρ => lit_of hop
    by_cases s0 : c.step = 0
    · refine ⟨litV 203, b8 c.sub, litV 0, b8 d, rfl, ?_, l203, fun _ _ h => h, fun ρ => lit_of s0, fun _ _ h => h⟩
      have := congrFun (congrFun snd0 c) d
      rw [this, actO_eq, s0]
      congr 2
      rw [← ec2]; simp only [s0]
    · by_cases s1 : c.step = 1
      · obtain ⟨n, hn⟩ : ∃ n : Nat, d = n := ⟨d.toNat, by omega⟩
        refine ⟨litV 203, b8 c.sub, litV 1, litV n, rfl, ?_, l203, fun _ _ h => h, fun ρ => lit_of s1, fun ρ => lit_of hn⟩
        have := snd1_all n (by omega) c
        unfold lhs1 rhs1 at this
        rw [this, actO_eq, s1, hn]
        congr 2
        rw [← ec2]; simp only [s1]
      · by_cases s2 : c.step = 2
        · obtain ⟨n, hn⟩ : ∃ n : Nat, c.sub = n := ⟨c.sub.toNat, by omega⟩
          refine ⟨litV 203, litV n, litV 2, b8 d, rfl, ?_, l203, fun ρ => lit_of hn, fun ρ => lit_of s2, fun _ _ h => h⟩
          have := snd2_all n (by omega) c d
          unfold lhs2 rhs2 at this
          rw [this, actO_eq, s2]
          congr 2
          rw [← ec2]; simp only [s2, hn]
        · refine ⟨litV 203, b8 c.sub, ci c.step 3 9, b8 d, rfl, ?_, l203, fun _ _ h => h, fun ρ => ci_of (by omega) hst.2, fun _ _ h => h⟩
          have := congrFun (congrFun snd3 c) d
          rw [this, actO_eq, ec2, act_cap (op := 203) (s := c.step) (show (3 : Int) ≤ c.step by omega)]
          rfl
  · have eR : actR c d = actM op c d c.step := by unfold actR; rw [hop2]
    rw [hop2, eR]
    have hall := act_all op (by omega) h203 c d
    unfold lhs rhs at hall
    injection hall with h1 h2
    by_cases hcap : c.step < capOf op
    · obtain ⟨s, hs⟩ : ∃ s : Nat, c.step = s := ⟨c.step.toNat, by omega⟩
      refine ⟨litV op, b8 c.sub, litV s, b8 d, rfl, ?_, fun ρ => lit_of hop, fun _ _ h => h, fun ρ => lit_of hs, fun _ _ h => h⟩
      have := idx h2 s (by simp; omega)
      rw [this, actO_eq, hs]
      congr 2
      have e2 : ({ c with op := (op : Int), step := (s : Int) } : Cpu) = c := by rw [← hop, ← hs]
      exact e2
    · refine ⟨litV op, b8 c.sub, ci c.step (capOf op) 9, b8 d, rfl, ?_, fun ρ => lit_of hop, fun _ _ h => h, fun ρ => ci_of (by omega) hst.2, fun _ _ h => h⟩
      rw [h1, actO_eq, ec, act_cap (op := op) (s := c.step) (by omega)]
theorem actFn_ok (cl : Nat) : (actFn cl).ok call1 (fun c => rowTab.getD c.op.toNat 0 = cl) := by
  intro c ns hin hr hcl
  obtain ⟨d, ms, rfl, hd1, hd2, hms⟩ := hr
  simp only [InRs] at hms; subst hms
  obtain ⟨op', sub', step', d', hu, hev, h1, h2, h3, h4⟩ := act_run hin ⟨hd1, hd2⟩
  rw [hcl] at hev
  obtain ⟨v, hp', hrun, hview⟩ := evA_sound hev
  obtain ⟨k1, k2, cs', k3, k4⟩ := viewA_sound hview
  simp only [unders, Bool.and_eq_true, and_true] at hu
  obtain ⟨u1, u2, u3, u4⟩ := hu
  refine ⟨_, [d'], v, hp', cs', encX_under (c := c) (st := ci c.cur.St 0 3) (mid := .sbool c.mid) (disp := .sbool c.disp) (op := op') (sub := sub') (step := step') ?_, by simp only [unders, u4, Bool.and_self], fun ρ l h => encX_VRs h (fun _ h => h) (fun _ h => h) (fun _ h => h) (h1 ρ) (h2 ρ) (h3 ρ), fun ρ l h => ?_, hrun, k1, fun ρ x h => k2 ρ x h, k3, fun ρ l h => k4 ρ l h⟩
  · simp only [unders, V.under, ci, u1, u2, u3, Bool.and_self]
  · obtain ⟨x, xs, rfl, hx, hxs⟩ := h
    exact ⟨x, xs, rfl, h4 ρ x hx, hxs⟩
theorem actFn_at (cl : Nat) : SumAt (83 + cl) (actFn cl).sum := by
  refine CFn.sound (s := actFn cl) call1OK (P := fun c => rowTab.getD c.op.toNat 0 = cl) (fun cs us ρ l hn hc hv => ?_) (actFn_ok cl)
  have hc : chkAct cl cs = true := hc
  unfold chkAct at hc
  split at hc <;> try (cases hc; done)
  rename_i op ho
  simp only [Bool.and_eq_true] at hc
  rw [opLit_sound hn ho hv]
  exact Nat.eq_of_beq_eq_true hc.2
end Go.Proofs.YtmlfmkebljdoiaaGreatDoor
