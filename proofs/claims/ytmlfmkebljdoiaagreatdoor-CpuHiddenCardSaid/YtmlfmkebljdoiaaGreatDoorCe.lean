/- Own text: how a processor lies in memory; summaries of functions that touch it alone. -/
import Derived.Test.YtmlfmkebljdoiaaGreatDoorCr
namespace Go.Proofs.YtmlfmkebljdoiaaGreatDoor
open Go.Ev Go.Ev.Tr Go.Proofs
set_option maxRecDepth 100000
/-! ### cells -/
inductive CS where
  | i (lo hi : Int)
  | b
def norm1C : CS → V → Option V
  | .i lo hi, .int k i => match decide (k = .i64) && ile lo i.lo && ile i.hi hi with
    | true => some (.int .i64 ⟨i.n, lo, hi⟩)
    | false => none
  | .b, .bool b => some (.sbool b)
  | .b, .sbool b => some (.sbool b)
  | _, _ => none
def normC : List CS → List V → Option (List V)
  | [], [] => some []
  | s :: ss, v :: vs => match norm1C s v with
    | some u => match normC ss vs with
      | some us => some (u :: us)
      | none => none
    | none => none
  | _, _ => none
def Shape : List CS → List V → Prop
  | [], l => l = []
  | .i lo hi :: ss, l => ∃ n us, l = .int .i64 ⟨n, lo, hi⟩ :: us ∧ Shape ss us
  | .b :: ss, l => ∃ b us, l = .sbool b :: us ∧ Shape ss us
theorem norm1C_VR {s : CS} {v u : V} {x : Value} {ρ : Ren} (h : norm1C s v = some u) (hv : VR ρ v x) : VR ρ u x := by
  unfold norm1C at h
  split at h
  · split at h <;> try contradiction
    rename_i hc
    simp only [Bool.and_eq_true, decide_eq_true_eq, ile_iff] at hc
    injection h with h; subst h
    obtain ⟨n, rfl, hn⟩ := hv
    exact ⟨n, by rw [hc.1.1], hn.1, by have := hn.2; simp only; omega, by have := hn.2; simp only; omega⟩
  · injection h with h; subst h; exact hv
  · injection h with h; subst h; exact hv
  · contradiction
theorem normC_VR {ρ : Ren} : ∀ {ss : List CS} {vs us : List V} {l : List Value}, normC ss vs = some us → VRs ρ vs l → VRs ρ us l
  | [], [], us, l, h, hv => by injection h with h; subst h; exact hv
  | [], _ :: _, _, _, h, _ => by cases h
  | _ :: _, [], _, _, h, _ => by cases h
  | s :: ss, v :: vs, us, l, h, ⟨x, xs, h1, h2, h3⟩ => by
    unfold normC at h
    split at h <;> try contradiction
    rename_i u hu
    split at h <;> try contradiction
    rename_i us' hus
    injection h with h; subst h
    exact ⟨x, xs, h1, norm1C_VR hu h2, normC_VR hus h3⟩
theorem normC_shape : ∀ {ss : List CS} {vs us : List V}, normC ss vs = some us → Shape ss us
  | [], [], us, h => by injection h with h; exact h.symm
  | [], _ :: _, _, h => by cases h
  | _ :: _, [], _, h => by cases h
  | s :: ss, v :: vs, us, h => by
    unfold normC at h
    split at h <;> try contradiction
    rename_i u hu
    split at h <;> try contradiction
    rename_i us' hus
    injection h with h; subst h
    have ih := normC_shape hus
    unfold norm1C at hu
    split at hu
    · split at hu <;> try contradiction
      injection hu with hu; subst hu
      exact ⟨_, us', rfl, ih⟩
    · injection hu with hu; subst hu
      exact ⟨_, us', rfl, ih⟩
    · injection hu with hu; subst hu
      exact ⟨_, us', rfl, ih⟩
    · contradiction
theorem shape_under : ∀ {ss : List CS} {us : List V}, Shape ss us → unders 0 us = true
  | [], us, h => by simp only [Shape] at h; subst h; rfl
  | .i _ _ :: ss, us, ⟨m, r, h, h2⟩ => by subst h; simp only [unders, V.under, Bool.true_and, shape_under h2]
  | .b :: ss, us, ⟨n, r, h, h2⟩ => by subst h; simp only [unders, V.under, Bool.true_and, shape_under h2]
def rspec : List CS := [.i 0 255, .i 0 255, .i 0 255, .i 0 255, .i 0 255, .i 0 255, .i 0 255, .i 0 255, .i 0 65535, .i 0 65535, .b, .i 0 3]
def cspec (N : Int) : List CS := rspec ++ (rspec ++ [.i 0 2, .i 0 65535, .i 0 255, .b, .b, .i 0 255, .i 0 255, .i 0 N, .i 0 255, .i 0 255, .i 0 255, .b, .b])
def ci (n lo hi : Int) : V := .int .i64 ⟨n, lo, hi⟩
def b8 (n : Int) : V := .int .i64 ⟨n, 0, 255⟩
def w16 (n : Int) : V := .int .i64 ⟨n, 0, 65535⟩
def encR (r : Rg) (st : V) : List V := [b8 r.A, b8 r.F, b8 r.B, b8 r.C, b8 r.D, b8 r.E, b8 r.H, b8 r.L, w16 r.SP, w16 r.PC, .sbool r.IME, st]
/-- Some cells in other words. -/
def encX (c : Cpu) (st mid disp op sub step : V) : List V := encR c.regs (ci c.regs.St 0 3) ++ (encR c.cur st ++ [ci c.want.k 0 2, w16 c.want.a, b8 c.want.d, mid, disp, op, sub, step, b8 c.low, b8 c.high, b8 c.pick, .sbool c.due, .sbool c.twice])
def enc (N : Int) (c : Cpu) : List V := encX c (ci c.cur.St 0 3) (.sbool c.mid) (.sbool c.disp) (b8 c.op) (b8 c.sub) (ci c.step 0 N)
def bOf : V → Bool
  | .bool b => b
  | .sbool b => b
  | _ => false
def nAt (l : List V) (i : Nat) : Int := nOf (l.getD i .any)
def bAt (l : List V) (i : Nat) : Bool := bOf (l.getD i .any)
def rgOf (l : List V) (o : Nat) : Rg := ⟨nAt l o, nAt l (o+1), nAt l (o+2), nAt l (o+3), nAt l (o+4), nAt l (o+5), nAt l (o+6), nAt l (o+7), nAt l (o+8), nAt l (o+9), bAt l (o+10), nAt l (o+11)⟩
def cpuOf (l : List V) : Cpu := ⟨rgOf l 0, rgOf l 12, ⟨nAt l 24, nAt l 25, nAt l 26⟩, bAt l 27, bAt l 28, nAt l 29, nAt l 30, nAt l 31, nAt l 32, nAt l 33, nAt l 34, bAt l 35, bAt l 36⟩
theorem enc_of {N : Int} {us : List V} (h : Shape (cspec N) us) : us = enc N (cpuOf us) := by
  obtain ⟨x0, _, rfl, x1, _, rfl, x2, _, rfl, x3, _, rfl, x4, _, rfl, x5, _, rfl, x6, _, rfl, x7, _, rfl, x8, _, rfl, x9, _, rfl, x10, _, rfl, x11, _, rfl, x12, _, rfl, x13, _, rfl, x14, _, rfl, x15, _, rfl, x16, _, rfl, x17, _, rfl, x18, _, rfl, x19, _, rfl, x20, _, rfl, x21, _, rfl, x22, _, rfl, x23, _, rfl, x24, _, rfl, x25, _, rfl, x26, _, rfl, x27, _, rfl, x28, _, rfl, x29, _, rfl, x30, _, rfl, x31, _, rfl, x32, _, rfl, x33, _, rfl, x34, _, rfl, x35, _, rfl, x36, _, rfl, h⟩ := h
  simp only [Shape] at h; subst h
  rfl
theorem cpuOf_enc {N : Int} (c : Cpu) : cpuOf (enc N c) = c := rfl
theorem enc_shape {N : Int} (c : Cpu) : Shape (cspec N) (enc N c) := by
  refine ⟨_, _, rfl, _, _, rfl, _, _, rfl, _, _, rfl, _, _, rfl, _, _, rfl, _, _, rfl, _, _, rfl, _, _, rfl, _, _, rfl, _, _, rfl, _, _, rfl, _, _, rfl, _, _, rfl, _, _, rfl, _, _, rfl, _, _, rfl, _, _, rfl, _, _, rfl, _, _, rfl, _, _, rfl, _, _, rfl, _, _, rfl, _, _, rfl, _, _, rfl, _, _, rfl, _, _, rfl, _, _, rfl, _, _, rfl, _, _, rfl, _, _, rfl, _, _, rfl, _, _, rfl, _, _, rfl, _, _, rfl, _, _, rfl, _, _, rfl, ?_⟩
  rfl
/-! ### within bounds -/
structure InR (r : Rg) : Prop where
  hA : 0 ≤ r.A ∧ r.A ≤ 255
  hF : 0 ≤ r.F ∧ r.F ≤ 255
  hB : 0 ≤ r.B ∧ r.B ≤ 255
  hC : 0 ≤ r.C ∧ r.C ≤ 255
  hD : 0 ≤ r.D ∧ r.D ≤ 255
  hE : 0 ≤ r.E ∧ r.E ≤ 255
  hH : 0 ≤ r.H ∧ r.H ≤ 255
  hL : 0 ≤ r.L ∧ r.L ≤ 255
  hSP : 0 ≤ r.SP ∧ r.SP ≤ 65535
  hPC : 0 ≤ r.PC ∧ r.PC ≤ 65535
  hSt : 0 ≤ r.St ∧ r.St ≤ 3
structure InB (N : Int) (c : Cpu) : Prop where
  regs : InR c.regs
  cur : InR c.cur
  wk : 0 ≤ c.want.k ∧ c.want.k ≤ 2
  wa : 0 ≤ c.want.a ∧ c.want.a ≤ 65535
  wd : 0 ≤ c.want.d ∧ c.want.d ≤ 255
  op : 0 ≤ c.op ∧ c.op ≤ 255
  sub : 0 ≤ c.sub ∧ c.sub ≤ 255
  step : 0 ≤ c.step ∧ c.step ≤ N
  low : 0 ≤ c.low ∧ c.low ≤ 255
  high : 0 ≤ c.high ∧ c.high ≤ 255
  pick : 0 ≤ c.pick ∧ c.pick ≤ 255
def Bnd : CS → V → Prop
  | .i lo hi, .int _ i => lo ≤ i.n ∧ i.n ≤ hi
  | _, _ => True
def Bnds : List CS → List V → Prop
  | s :: ss, v :: vs => Bnd s v ∧ Bnds ss vs
  | _, _ => True
theorem shape_bnds {ρ : Ren} : ∀ {ss : List CS} {us : List V} {l : List Value}, Shape ss us → VRs ρ us l → Bnds ss us
  | [], _, _, _, _ => by simp [Bnds]
  | .i lo hi :: ss, us, l, ⟨m, r, h, h2⟩, hv => by
    subst h
    obtain ⟨x, xs, _, ⟨n, _, hn⟩, hv2⟩ := hv
    exact ⟨⟨by have := hn.2; have := hn.1; simp only at *; omega, by have := hn.2; have := hn.1; simp only at *; omega⟩, shape_bnds h2 hv2⟩
  | .b :: ss, us, l, ⟨m, r, h, h2⟩, hv => by
    subst h
    obtain ⟨x, xs, _, _, hv2⟩ := hv
    exact ⟨trivial, shape_bnds h2 hv2⟩
theorem inB_of {N : Int} {c : Cpu} {ρ : Ren} {l : List Value} (h : VRs ρ (enc N c) l) : InB N c := by
  have hb := shape_bnds (enc_shape c) h
  obtain ⟨h0, h1, h2, h3, h4, h5, h6, h7, h8, h9, h10, h11, h12, h13, h14, h15, h16, h17, h18, h19, h20, h21, h22, h23, h24, h25, h26, h27, h28, h29, h30, h31, h32, h33, h34, h35, h36, _⟩ := hb
  exact ⟨⟨h0, h1, h2, h3, h4, h5, h6, h7, h8, h9, h11⟩, ⟨h12, h13, h14, h15, h16, h17, h18, h19, h20, h21, h23⟩, h24, h25, h26, h29, h30, h31, h32, h33, h34⟩
/-- Cells in other words. -/
theorem encX_VRs {N : Int} {c : Cpu} {ρ : Ren} {l : List Value} {st mid disp op sub step : V} (h : VRs ρ (enc N c) l)
    (h1 : ∀ x, VR ρ (ci c.cur.St 0 3) x → VR ρ st x) (h2 : ∀ x, VR ρ (.sbool c.mid) x → VR ρ mid x) (h3 : ∀ x, VR ρ (.sbool c.disp) x → VR ρ disp x) (h4 : ∀ x, VR ρ (b8 c.op) x → VR ρ op x) (h5 : ∀ x, VR ρ (b8 c.sub) x → VR ρ sub x) (h6 : ∀ x, VR ρ (ci c.step 0 N) x → VR ρ step x) :
    VRs ρ (encX c st mid disp op sub step) l := by
  obtain ⟨y0, _, rfl, k0, y1, _, rfl, k1, y2, _, rfl, k2, y3, _, rfl, k3, y4, _, rfl, k4, y5, _, rfl, k5, y6, _, rfl, k6, y7, _, rfl, k7, y8, _, rfl, k8, y9, _, rfl, k9, y10, _, rfl, k10, y11, _, rfl, k11, y12, _, rfl, k12, y13, _, rfl, k13, y14, _, rfl, k14, y15, _, rfl, k15, y16, _, rfl, k16, y17, _, rfl, k17, y18, _, rfl, k18, y19, _, rfl, k19, y20, _, rfl, k20, y21, _, rfl, k21, y22, _, rfl, k22, y23, _, rfl, k23, y24, _, rfl, k24, y25, _, rfl, k25, y26, _, rfl, k26, y27, _, rfl, k27, y28, _, rfl, k28, y29, _, rfl, k29, y30, _, rfl, k30, y31, _, rfl, k31, y32, _, rfl, k32, y33, _, rfl, k33, y34, _, rfl, k34, y35, _, rfl, k35, y36, _, rfl, k36, h⟩ := h
  simp only [VRs] at h; subst h
  exact ⟨_, _, rfl, k0, _, _, rfl, k1, _, _, rfl, k2, _, _, rfl, k3, _, _, rfl, k4, _, _, rfl, k5, _, _, rfl, k6, _, _, rfl, k7, _, _, rfl, k8, _, _, rfl, k9, _, _, rfl, k10, _, _, rfl, k11, _, _, rfl, k12, _, _, rfl, k13, _, _, rfl, k14, _, _, rfl, k15, _, _, rfl, k16, _, _, rfl, k17, _, _, rfl, k18, _, _, rfl, k19, _, _, rfl, k20, _, _, rfl, k21, _, _, rfl, k22, _, _, rfl, h1 _ k23, _, _, rfl, k24, _, _, rfl, k25, _, _, rfl, k26, _, _, rfl, h2 _ k27, _, _, rfl, h3 _ k28, _, _, rfl, h4 _ k29, _, _, rfl, h5 _ k30, _, _, rfl, h6 _ k31, _, _, rfl, k32, _, _, rfl, k33, _, _, rfl, k34, _, _, rfl, k35, _, _, rfl, k36, rfl⟩
theorem encX_under {c : Cpu} {st mid disp op sub step : V} (h : unders 0 [st, mid, disp, op, sub, step] = true) : unders 0 (encX c st mid disp op sub step) = true := by
  simp only [unders, Bool.and_eq_true, and_true] at h
  obtain ⟨h1, h2, h3, h4, h5, h6⟩ := h
  simp only [encX, encR, List.cons_append, List.nil_append, unders, V.under, ci, b8, w16, h1, h2, h3, h4, h5, h6, Bool.and_self]
theorem lit_of {n lo hi m : Int} {ρ : Ren} (h : n = m) : ∀ x, VR ρ (ci n lo hi) x → VR ρ (.int .i64 (I.lit m)) x := by
  rintro x ⟨q, rfl, hq⟩
  refine ⟨q, rfl, ?_⟩
  have := hq.1
  simp only at this
  rw [this, h]; exact IR.lit _
theorem ci_of {n lo hi lo' hi' : Int} {ρ : Ren} (h1 : lo' ≤ n) (h2 : n ≤ hi') : ∀ x, VR ρ (ci n lo hi) x → VR ρ (ci n lo' hi') x := by
  rintro x ⟨q, rfl, hq⟩
  have := hq.1
  simp only at this
  subst this
  exact ⟨q, rfl, rfl, h1, h2⟩
theorem bool_of {b b' : Bool} {ρ : Ren} (h : b = b') : ∀ x, VR ρ (.sbool b) x → VR ρ (.bool b') x := by
  rintro x hx; rw [← h]; exact hx
/-! ### functions of a processor and numbers -/
def intsIn : List (Int × Int) → List V → Option (List Int)
  | [], [] => some []
  | r :: rs, v :: vs => match v with
    | .int k i => match decide (k = .i64) && ile r.1 i.lo && ile i.hi r.2 with
      | true => match intsIn rs vs with
        | some ns => some (i.n :: ns)
        | none => none
      | false => none
    | _ => none
  | _, _ => none
def encI : List (Int × Int) → List Int → List V
  | r :: rs, n :: ns => ci n r.1 r.2 :: encI rs ns
  | _, _ => []
def InRs : List (Int × Int) → List Int → Prop
  | [], ns => ns = []
  | r :: rs, ns => ∃ n ms, ns = n :: ms ∧ r.1 ≤ n ∧ n ≤ r.2 ∧ InRs rs ms
theorem intsIn_sound {ρ : Ren} : ∀ {rs : List (Int × Int)} {vs : List V} {ns : List Int} {l : List Value}, intsIn rs vs = some ns → VRs ρ vs l → VRs ρ (encI rs ns) l ∧ InRs rs ns
  | [], [], ns, l, h, hv => by injection h with h; subst h; exact ⟨hv, rfl⟩
  | [], _ :: _, _, _, h, _ => by cases h
  | _ :: _, [], _, _, h, _ => by cases h
  | r :: rs, v :: vs, ns, l, h, ⟨x, xs, h1, h2, h3⟩ => by
    unfold intsIn at h
    split at h <;> try contradiction
    split at h <;> try contradiction
    rename_i hc
    simp only [Bool.and_eq_true, decide_eq_true_eq, ile_iff] at hc
    split at h <;> try contradiction
    rename_i ms hms
    injection h with h; subst h
    obtain ⟨g1, g2⟩ := intsIn_sound hms h3
    obtain ⟨n, rfl, hn⟩ := h2
    have e := hn.1
    have e2 := hn.2
    refine ⟨⟨_, xs, h1, ⟨n, by rw [hc.1.1], e, by simp only; omega, by simp only; omega⟩, g1⟩, ⟨_, ms, rfl, by omega, by omega, g2⟩⟩
/-- How a function of a processor is told. -/
structure CFn where
  f : Nat
  N : Int
  M : Int
  rng : List (Int × Int)
  chk : List V → Bool
  out : Cpu → List Int → Cpu
  ret : Cpu → List Int → V
noncomputable def CFn.sum (s : CFn) : Summ := fun ro hp args => match args with
  | .ptr b o :: xs => match roIs ro && isZero o with
    | true => match hp.m.get b with
      | some (.cells cs) => match normC (cspec s.N) cs with
        | some us => match s.chk cs with
          | true => match intsIn s.rng xs with
            | some ns => .ret (.ret (s.ret (cpuOf us) ns), hp.put b (some (.cells (enc s.M (s.out (cpuOf us) ns)))))
            | none => .fail
          | false => .fail
        | none => .fail
      | _ => .fail
    | false => .fail
  | _ => .fail
/-- What is to be shown of it; P: what the check tells. -/
def CFn.ok (s : CFn) (call : CallF) (P : Cpu → Prop) : Prop := ∀ (c : Cpu) (ns : List Int), InB s.N c → InRs s.rng ns → P c → ∃ cs xs v hp' cs', unders 0 cs = true ∧ unders 0 xs = true ∧
  (∀ (ρ : Ren) l, VRs ρ (enc s.N c) l → VRs ρ cs l) ∧ (∀ (ρ : Ren) l, VRs ρ (encI s.rng ns) l → VRs ρ xs l) ∧
  (call ro0 s.f (.ptr 2 (I.lit 0) :: xs) (hpL 2 1000000 [.cells cs])).run = some (.ret v, hp') ∧ V.under 0 v = true ∧ (∀ (ρ : Ren) x, VR ρ v x → VR ρ (s.ret c ns) x) ∧
  hp'.m.get 2 = some (.cells cs') ∧ (∀ (ρ : Ren) l, VRs ρ cs' l → VRs ρ (enc s.M (s.out c ns)) l)
theorem CFn.sound {s : CFn} {call : CallF} (hc : CallOK Tryz.prog 2 call) {P : Cpu → Prop} (hP : ∀ cs us (ρ : Ren) l, normC (cspec s.N) cs = some us → s.chk cs = true → VRs ρ cs l → P (cpuOf us)) (h : s.ok call P) : SumAt s.f s.sum := by
  intro ro hp args r hrun w0 F ρ w l hr hl
  unfold CFn.sum at hrun
  split at hrun <;> try (cases hrun; done)
  rename_i b o xs
  split at hrun <;> try (cases hrun; done)
  rename_i hro
  simp only [Bool.and_eq_true] at hro
  split at hrun <;> try (cases hrun; done)
  rename_i cs hcs
  split at hrun <;> try (cases hrun; done)
  rename_i us hus
  split at hrun <;> try (cases hrun; done)
  rename_i hchk
  split at hrun <;> try (cases hrun; done)
  rename_i ns hns
  injection hrun with hrun; subst hrun
  obtain ⟨px, l', rfl, hpx, hl'⟩ := hl
  obtain ⟨B, tot, ob, e1, e2, e3, e4⟩ := hr.blk b _ (at_get hcs)
  obtain ⟨cl, t, fz, rfl, hcl, hlen, hfz⟩ := e3
  have hen := enc_of (normC_shape hus)
  have hvs : VRs ρ (enc s.N (cpuOf us)) cl := by rw [← hen]; exact normC_VR hus hcl
  have hin := inB_of hvs
  have hpp := hP cs us ρ cl hus hchk hcl
  obtain ⟨hia, hir⟩ := intsIn_sound hns hl'
  obtain ⟨cs1, xs1, v, hp', cs', u1, u2, k1, k2, k3, k4, k5, k6, k7⟩ := h (cpuOf us) ns hin hir hpp
  have hz : o.lo = 0 ∧ o.hi = 0 := by
    have := hro.2
    simp only [isZero, Bool.and_eq_true, ieq_iff] at this
    exact this
  have main := ownCall (bs := [b]) (bl := [.cells cs1]) (bl' := [.cells (enc s.M (s.out (cpuOf us) ns))]) hc k3 (roIs_sound hro.1) ro0OK (fun i b' hb => by
      cases i with
      | zero =>
        simp only [List.getElem?_cons_zero, Option.some.injEq] at hb; subst hb
        refine ⟨_, _, hcs, rfl, u1, fun ρ tot o ⟨l, t, fz, a1, a2, a3⟩ => ⟨l, t, fz, a1, k1 ρ l ?_, a3⟩⟩
        rw [← hen]; exact normC_VR hus a2
      | succ i => simp at hb) rfl rfl (by simp) k4 (fun i b' hb => by
      cases i with
      | zero =>
        simp only [List.getElem?_cons_zero, Option.some.injEq] at hb; subst hb
        exact ⟨shape_under (enc_shape _), _, k6, fun ρ tot o ⟨l, t, fz, a1, a2, a3⟩ => ⟨l, t, fz, a1, k7 ρ l a2, a3⟩⟩
      | succ i => simp at hb) hr (args := .ptr b o :: xs) (l := px :: l') ⟨px, l', rfl, hpx, hl'⟩ (fun _ => by
      obtain ⟨B', tot', n, q1, rfl, q3⟩ := hpx
      refine ⟨_, l', rfl, ⟨B', tot', n, ?_, rfl, ?_⟩, unders_mono (n := 0) (fun id x _ h => by omega) xs1 l' u2 (k2 ρ l' hia)⟩
      · show renL ρ 2 [b] 2 = _
        rw [show (2 : Nat) = 2 + 0 by rfl, renL_own (i := 0) (b := b) rfl]; exact q1
      · have := q3.2
        have e : (n : Int) = 0 := by omega
        rw [e]; exact IR.lit 0)
  obtain ⟨g1, g2⟩ := main
  refine ⟨g1, g2.mono fun en w' ⟨ρ', m1, m2, x, m3, m4⟩ => ⟨ρ', m1, m2, x, m3, k5 _ _ m4⟩⟩
end Go.Proofs.YtmlfmkebljdoiaaGreatDoor
