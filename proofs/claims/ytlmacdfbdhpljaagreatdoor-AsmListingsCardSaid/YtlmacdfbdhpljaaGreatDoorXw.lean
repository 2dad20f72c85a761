/- Own text: calls of the program's functions, told in the world's words. -/
import Derived.Test.YtlmacdfbdhpljaaGreatDoorHm
import Derived.Below
import Derived.Test.YtlmacdfbdhpljaaGreatDoorSv
import Derived.WalkKit
import Derived.BigCall
import Derived.Test.YtlmacdfbdhpljaaGreatDoorHn
import Derived.SizedLaws
namespace Go.Proofs.YtlmacdfbdhpljaaGreatDoor
open Go.Ev Go.Ev.Tr Go.Proofs Go.RowKit
set_option maxRecDepth 1000000
/-- The powers of ten lie where they lie. -/
def Pow (w : World) : Prop := ∃ o, w.heap[0]? = some o ∧ ∀ ρ : Ren, BR ρ 20 (.cells pow10C) o
theorem pow_of {w0 : Base} {F : Nat → Prop} {ρ : Ren} {hp : Hp} {w : World} {ro : RO} (hr : Rel w0 F 6 ro ρ hp w) (h : isPow ro = true) : Pow w := by
  obtain ⟨o, h1, _⟩ := pow_BR hr h ρ
  refine ⟨o, h1, fun ρ1 => ?_⟩
  obtain ⟨o', h2, h3⟩ := pow_BR hr h ρ1
  have e : o' = o := Option.some.inj (h2.symm.trans h1)
  exact e ▸ h3
theorem Pow.below {w w' : World} (h : Pow w) {B : Nat} (hB : Below B w w') (h0 : 0 < B) : Pow w' := by
  obtain ⟨o, h1, h2⟩ := h
  exact ⟨o, (hB.block 0 h0).trans h1, h2⟩
theorem Pow.alloc {w : World} (h : Pow w) (o : Obj) : Pow (w.alloc o) := by
  obtain ⟨o1, h1, h2⟩ := h
  exact ⟨o1, (Below.heap_alloc w o 0 (lt_of_heap h1)).trans h1, h2⟩
theorem Pow.pos {w : World} (h : Pow w) : 0 < w.heap.size := by
  obtain ⟨o, h1, _⟩ := h
  exact lt_of_heap h1
/-- A world in which nothing else is known. -/
theorem rel10 {w : World} (hP : Pow w) : Rel ⟨w, ren0, 6⟩ (fun _ => False) 6 ro10 ren0 (startHp 6 1000000) w := by
  obtain ⟨o, h0, hb⟩ := hP
  have at0 : ∀ id b, Hp.at ro10 (startHp 6 1000000) id = some b → id = 0 ∧ b = .cells pow10C := fun id b h => by
    have h : ro10 id = some b := h
    unfold ro10 at h
    split at h
    · rename_i e
      injection h with h
      exact ⟨Nat.eq_of_beq_eq_true e, h.symm⟩
    · cases h
  refine ⟨fun id b h => ?_, fun i j b c B t t' hi hj e1 e2 => ?_, fun id b h => (by cases h), fun id i1 i2 => ?_, fun _ _ _ => rfl, Nat.le_refl _, rfl, rfl, rfl, fun g hg => ⟨20, ?_⟩, fun id x hx => .inl hx, Nat.le_refl _, fun B l h => (by cases h), fun id b B t h => (by cases h), fun B l h => (by cases h)⟩
  · obtain ⟨rfl, rfl⟩ := at0 id b h
    exact ⟨0, 20, o, rfl, h0, hb _, .inl rfl⟩
  · obtain ⟨rfl, _⟩ := at0 i b hi
    obtain ⟨rfl, _⟩ := at0 j c hj
    exact .inl rfl
  · have i1 : 6 ≤ id := i1
    show (if id < 6 then some (id, 20) else none) = none
    rw [if_neg (by omega)]
  · show (if g < 6 then some (g, 20) else none) = _
    rw [if_pos hg]
theorem below_of {w w' : World} {ρ ρ' : Ren} {n : Nat} {ro : RO} {hp : Hp} (h : Rel ⟨w, ρ, n⟩ (fun _ => False) 6 ro ρ' hp w') : Below w.heap.size w w' :=
  ⟨h.os, h.tape, h.output, h.size, fun k hk => h.frame k hk (fun f => f)⟩
def insU (x : Ins) : Value := .agg #[.string ⟨⟨txU x.1⟩⟩, .int .i64 x.2.1, .int .i64 x.2.2.1, .int .i64 x.2.2.2]
theorem insV_eq {ρ : Ren} {x : Ins} {y : Value} (h : VR ρ (insV x) y) : y = insU x := by
  obtain ⟨l, rfl, a, aa, rfl, ⟨h1, _⟩, b, bs, rfl, ⟨n1, rfl, i1, _⟩, c, cs, rfl, ⟨n2, rfl, i2, _⟩, d, ds, rfl, ⟨n3, rfl, i3, _⟩, hn⟩ := h
  have hn : ds = [] := hn
  subst hn; subst h1
  simp only at i1 i2 i3
  subst i1; subst i2; subst i3; rfl
theorem reads_calls {fn : Nat} (hfn : ReadsAt fn) {w : World} (hP : Pow w) {R o nl cap : Nat} {f : Nat → Int} (hby : ByAt w R o nl f) (h1 : 1 ≤ nl) (hc : nl ≤ cap) (hn : nl ≤ 4611686018427387904) {org : Int} (h0 : 0 ≤ org) (ho : org ≤ 131072) :
    Calls Tryz.prog fn #[.slice (some ⟨R, o, none⟩) nl cap, .int .i64 org] w fun e w' => e = .returned (insU (insX nl (f 0) (f 1) (f 2) org)) ∧ Below w.heap.size w w' := by
  obtain ⟨l, t, fz, hw, hb⟩ := hby
  obtain ⟨call, xs, len', c1, c2, c3, c4⟩ := hfn nl f org h1 hn (fun i hi => (hb i hi).2) h0 ho
  have hok : InsOk (insX nl (f 0) (f 1) (f 2) org) := insX_ok (hb 0 (by omega)).2 fun h => (hb 1 (by omega)).2
  obtain ⟨v, hp', r1, r2, r3⟩ := insEnd c2 hok
  obtain ⟨_, g⟩ := winCall c1 r1 r2 (rel10 hP) ro10_pow (B := R) (n := o) (xs := xs) ⟨l, t, fz, hw, fun i x hx => by
    obtain ⟨q1, q2⟩ := c3 i x hx
    exact ⟨f i, (hb i q1).1, q2⟩⟩ (l := [.slice (some ⟨R, o, none⟩) nl cap, .int .i64 org]) ⟨_, _, rfl, ⟨R, o, 0, nl, cap, rfl, rfl, IR.lit 0, c4, hc⟩, _, _, rfl, ⟨org, rfl, rfl, h0, ho⟩, rfl⟩
  refine g.mono fun e w' ⟨ρ', _, k2, x, k3, k4⟩ => ⟨?_, below_of k2⟩
  rw [k3, insV_eq (r3 _ _ k4)]
theorem one_calls {w : World} (hP : Pow w) {R o nl cap : Nat} {f : Nat → Int} (hby : ByAt w R o nl f) (h1 : 1 ≤ nl) (hc : nl ≤ cap) (hn : nl ≤ 4611686018427387904) {org : Int} (h0 : 0 ≤ org) (ho : org ≤ 131072) :
    Calls Tryz.prog 49 #[.slice (some ⟨R, o, none⟩) nl cap, .int .i64 org] w fun e w' => e = .returned (insU (insX nl (f 0) (f 1) (f 2) org)) ∧ Below w.heap.size w w' := reads_calls one_reads hP hby h1 hc hn h0 ho
theorem told_calls {w : World} (hP : Pow w) {R o nl cap : Nat} {f : Nat → Int} (hby : ByAt w R o nl f) (h1 : 1 ≤ nl) (hc : nl ≤ cap) (hn : nl ≤ 4611686018427387904) {org : Int} (h0 : 0 ≤ org) (ho : org ≤ 131072) :
    Calls Tryz.prog 79 #[.slice (some ⟨R, o, none⟩) nl cap, .int .i64 org] w fun e w' => e = .returned (insU (insX nl (f 0) (f 1) (f 2) org)) ∧ Below w.heap.size w w' := reads_calls told_reads hP hby h1 hc hn h0 ho
def hxU (n : Int) : List UInt8 := ([I.lit 36] ++ hex4 n).map Ev.byteOf
theorem hex_calls {w : World} (hP : Pow w) {n : Int} (h0 : 0 ≤ n) (h1 : n ≤ 65535) : Calls Tryz.prog 56 #[.int .i64 n, .int .i64 4] w fun e w' => e = .returned (.string ⟨⟨hxU n⟩⟩) ∧ Below w.heap.size w w' := by
  obtain ⟨_, g⟩ := hxA_at ro10 _ [.int .i64 ⟨n, 0, 65535⟩, .int .i64 (I.lit 4)] (.ret (.str ([I.lit 36] ++ hex4 n)), startHp 6 1000000) rfl _ _ _ w [.int .i64 n, .int .i64 4] (rel10 hP) ⟨_, _, rfl, ⟨n, rfl, rfl, h0, h1⟩, _, _, rfl, ⟨4, rfl, IR.lit 4⟩, rfl⟩
  refine g.mono fun e w' ⟨ρ', _, k2, x, k3, k4⟩ => ⟨?_, below_of k2⟩
  rw [k3, k4.1]; rfl
def hyU (n : Int) : List UInt8 := (hex4 n).map Ev.byteOf
theorem hey_calls {w : World} (hP : Pow w) {n : Int} (h0 : 0 ≤ n) (h1 : n ≤ 65535) : Calls Tryz.prog 94 #[.int .i64 n, .int .i64 4] w fun e w' => e = .returned (.string ⟨⟨hyU n⟩⟩) ∧ Below w.heap.size w w' := by
  obtain ⟨_, g⟩ := hxB_at ro10 _ [.int .i64 ⟨n, 0, 65535⟩, .int .i64 (I.lit 4)] (.ret (.str ([] ++ hex4 n)), startHp 6 1000000) rfl _ _ _ w [.int .i64 n, .int .i64 4] (rel10 hP) ⟨_, _, rfl, ⟨n, rfl, rfl, h0, h1⟩, _, _, rfl, ⟨4, rfl, IR.lit 4⟩, rfl⟩
  refine g.mono fun e w' ⟨ρ', _, k2, x, k3, k4⟩ => ⟨?_, below_of k2⟩
  rw [k3, k4.1]; rfl
noncomputable def fitsT (f : Nat) (n org : Int) : Option Bool := ((callA sm1 (roW []) f [.wsl 6 (I.lit 0) ⟨n, 0, 4096⟩, .int .i64 ⟨org, 0, 65535⟩] hpW).bind fun r => T.ret (viewH r)).run
theorem fits_run (n org : Int) : fitsT 48 n org = some (decide (org + n ≤ 65536)) := by kernel_rfl
theorem lies_run (n org : Int) : fitsT 78 n org = some (decide (org + n ≤ 65536)) := by kernel_rfl
theorem fit_calls {f : Nat} {w : World} (hP : Pow w) {R o nl cap : Nat} {l : List Value} {t : TypeId} {fz : Nat × Nat} (hR : w.heap[R]? = some (.cells ⟨l⟩ t fz)) (hn : nl ≤ 4096) (hc : nl ≤ cap) {org : Int} (h0 : 0 ≤ org) (ho : org ≤ 65535) (hf : org + nl ≤ 65536) (hrun : fitsT f nl org = some (decide (org + nl ≤ 65536))) :
    Calls Tryz.prog f #[.slice (some ⟨R, o, none⟩) nl cap, .int .i64 org] w fun e w' => e = .returned (.bool true) ∧ Below w.heap.size w w' := by
  unfold fitsT at hrun
  rw [decide_eq_true hf] at hrun
  obtain ⟨⟨e, hp⟩, h1, h2⟩ := T.run_bind_some hrun
  injection h2 with h2
  unfold viewH at h2
  simp only at h2
  have key : ∀ v, (callA sm1 (roW []) f [.wsl 6 (I.lit 0) ⟨nl, 0, 4096⟩, .int .i64 ⟨org, 0, 65535⟩] hpW).run = some (.ret v, hp) → V.under 0 v = true → (∀ (ρ : Ren) x, VR ρ v x → x = .bool true) → Calls Tryz.prog f #[.slice (some ⟨R, o, none⟩) nl cap, .int .i64 org] w fun e w' => e = .returned (.bool true) ∧ Below w.heap.size w w' := fun v hv hu hb => by
    obtain ⟨_, g⟩ := winCall (callAOK sm1_ok) hv hu (rel10 hP) ro10_pow (B := R) (n := o) (xs := []) ⟨l, t, fz, hR, fun i x hx => by simp at hx⟩ (l := [.slice (some ⟨R, o, none⟩) nl cap, .int .i64 org]) ⟨_, _, rfl, ⟨R, o, 0, nl, cap, rfl, rfl, IR.lit 0, ⟨rfl, by show (0 : Int) ≤ nl; omega, by show (nl : Int) ≤ 4096; omega⟩, hc⟩, _, _, rfl, ⟨org, rfl, rfl, h0, ho⟩, rfl⟩
    refine g.mono fun e w' ⟨ρ', _, k2, x, k3, k4⟩ => ⟨?_, below_of k2⟩
    rw [k3, hb _ _ k4]
  split at h2
  · rename_i b
    subst h2
    exact key _ h1 rfl fun ρ x h => h
  · rename_i b
    subst h2
    exact key _ h1 rfl fun ρ x h => h
  · cases h2
theorem fits_calls {w : World} (hP : Pow w) {R o nl cap : Nat} {l : List Value} {t : TypeId} {fz : Nat × Nat} (hR : w.heap[R]? = some (.cells ⟨l⟩ t fz)) (hn : nl ≤ 4096) (hc : nl ≤ cap) {org : Int} (h0 : 0 ≤ org) (ho : org ≤ 65535) (hf : org + nl ≤ 65536) :
    Calls Tryz.prog 48 #[.slice (some ⟨R, o, none⟩) nl cap, .int .i64 org] w fun e w' => e = .returned (.bool true) ∧ Below w.heap.size w w' := fit_calls hP hR hn hc h0 ho hf (fits_run _ _)
theorem lies_calls {w : World} (hP : Pow w) {R o nl cap : Nat} {l : List Value} {t : TypeId} {fz : Nat × Nat} (hR : w.heap[R]? = some (.cells ⟨l⟩ t fz)) (hn : nl ≤ 4096) (hc : nl ≤ cap) {org : Int} (h0 : 0 ≤ org) (ho : org ≤ 65535) (hf : org + nl ≤ 65536) :
    Calls Tryz.prog 78 #[.slice (some ⟨R, o, none⟩) nl cap, .int .i64 org] w fun e w' => e = .returned (.bool true) ∧ Below w.heap.size w w' := fit_calls hP hR hn hc h0 ho hf (lies_run _ _)
end Go.Proofs.YtlmacdfbdhpljaaGreatDoor

namespace Go.Proofs.YtlmacdfbdhpljaaGreatDoor
open Go.Ev Go.Ev.Tr Go.Proofs Go.RowKit
set_option maxRecDepth 1000000
/-- The instruction at a place. -/
def atX (f : Nat → Int) (n : Nat) (org : Int) (a : Nat) : Ins := insX ((n - a : Nat) : Int) (f (a + 0)) (f (a + 1)) (f (a + 2)) (org + a)
def linesL (f : Nat → Int) (n : Nat) (org : Int) : Nat → Nat → List UInt8
  | 0, _ => []
  | k + 1, a => if a < n then txU (atX f n org a).1 ++ [10] ++ linesL f n org k (a + (atX f n org a).2.1.toNat) else []
def orgU : List UInt8 := [111, 114, 103, 32]
def headU (org : Int) : List UInt8 := orgU ++ hxU org ++ [10]
def listU (f : Nat → Int) (n : Nat) (org : Int) : List UInt8 := headU org ++ linesL f n org n 0
theorem builder_kept {T e : TypeId} {B b : Nat} {bs : List Value} {w w' : World} (h : Lib.IsBuilderF T e B b bs w) (hb : Below w.heap.size w w') : Lib.IsBuilderF T e B b bs w' := by
  have key : ∀ {p}, Lib.BuilderAtF T e B b p bs w → Lib.BuilderAtF T e B b p bs w' := fun {p} h => by
    have hlt := h.lt
    obtain ⟨hB, v, hv, hown, hne⟩ := h
    exact ⟨hB, v, (hb.block b hlt).trans hv, hown.kept (row := none) ⟨hb.os, hb.tape, hb.output, hb.size, fun k hk _ => hb.block k hk⟩ (by cases hv : v.ownBlock <;> simp), hne⟩
  exact h.imp key key
theorem ByAt.below {w w' : World} {R o nl : Nat} {f : Nat → Int} (h : ByAt w R o nl f) {B : Nat} (hb : Below B w w') (hB : w.heap.size ≤ B) : ByAt w' R o nl f := by
  obtain ⟨l, t, fz, h1, h2⟩ := h
  have := lt_of_heap h1
  exact ⟨l, t, fz, (hb.block R (by omega)).trans h1, h2⟩
theorem ByAt.from {w : World} {R o nl : Nat} {f : Nat → Int} (h : ByAt w R o nl f) {a : Nat} (ha : a ≤ nl) : ByAt w R (o + a) (nl - a) (fun i => f (a + i)) := by
  obtain ⟨l, t, fz, h1, h2⟩ := h
  refine ⟨l, t, fz, h1, fun i hi => ?_⟩
  have := h2 (a + i) (by omega)
  rw [← Nat.add_assoc] at this
  exact this
theorem hxU_len (n : Int) : (hxU n).length = 5 := rfl
theorem head_cells (org : Int) : [] ++ Lib.strCells (⟨#[111, 114, 103, 32]⟩ ++ ⟨⟨hxU org⟩⟩ ++ ⟨#[10]⟩) = Lib.byteCells (headU org) := by
  rw [List.nil_append, Lib.strCells_eq]
  congr 1
theorem head_size (org : Int) : ([] : List Value).length + ((⟨#[111, 114, 103, 32]⟩ ++ ⟨⟨hxU org⟩⟩ ++ ⟨#[10]⟩ : ByteArray)).size ≤ 140737488355328 := by
  have : ((⟨#[111, 114, 103, 32]⟩ ++ ⟨⟨hxU org⟩⟩ ++ ⟨#[10]⟩ : ByteArray)).size = 10 := by
    rw [ByteArray.size_append, ByteArray.size_append]; rfl
  rw [this]; decide
theorem head_len (org : Int) : (headU org).length = 10 := rfl
set_option maxHeartbeats 4000000 in
theorem listing_walk {w : World} (hP : Pow w) {R o nl cap : Nat} {f : Nat → Int} (hby : ByAt w R o nl f) (hn : nl ≤ 4096) (hc : nl ≤ cap) {org : Int} (h0 : 0 ≤ org) (h1 : org ≤ 65535) (hf : org + nl ≤ 65536) :
    Calls Tryz.prog 27 #[.slice (some ⟨R, o, none⟩) nl cap, .int .i64 org] w fun e w' => e = .returned (.tuple #[.string ⟨⟨listU f nl org⟩⟩, .int .i64 0]) ∧ Below w.heap.size w w' := by
  have hR : ∃ l t fz, w.heap[R]? = some (.cells ⟨l⟩ t fz) := by
    obtain ⟨l, t, fz, h, _⟩ := hby
    exact ⟨l, t, fz, h⟩
  obtain ⟨l, t, fz, hR⟩ := hR
  go_enter Tryz.func27, Tryz.ntmps27
  go_wp2_with (go_at_call 48; refine (fits_calls hP hR hn hc h0 h1 hf).mono ?_)
  rintro e w1 ⟨rfl, b1⟩
  go_wp2_with (go_at_call 56; refine (hex_calls ((Pow.below hP b1 hP.pos).alloc _) h0 h1).mono ?_)
  rintro e w2 ⟨rfl, b2⟩
  have hI2 : Lib.IsBuilderF 116 5 w1.heap.size w1.heap.size [] w2 := builder_kept (Lib.IsBuilderF.of (Lib.fresh_isBuilder 116 5 w1)) b2
  have hs2 := b2.size
  go_wp2_with (go_at_call 55; refine (Tryz.wrs_k w1.heap.size w1.heap.size [] _ w2 hI2 ?c1 ?c2).mono ?_)
  case c1 => exact head_size org
  case c2 =>
    simp at hs2
    omega
  rintro e w3 ⟨rfl, hI3, b3, _⟩
  have hI3' : Lib.IsBuilderF 116 5 w1.heap.size w1.heap.size (Lib.byteCells (headU org)) w3 := Or.inr (by rw [← head_cells]; exact hI3)
  have hB3 : Below w1.heap.size w1 w3 := (((Below.refl _ w1).alloc (Nat.le_refl _) _).trans (b2.mono (by simp))).trans b3
  clear hI3 hI2 b3 b2 hs2
  go_wp2
  go_loopw [7] (fun v wr => ∃ (a k : Nat) (acc : List UInt8), v = .int .i64 a ∧ Lib.IsBuilderF 116 5 w1.heap.size w1.heap.size (Lib.byteCells acc) wr ∧ Below w1.heap.size w1 wr ∧ acc ++ linesL f nl org k a = listU f nl org ∧ nl ≤ a + k ∧ a ≤ nl + 3 ∧ acc.length ≤ 10 + 1001 * a) (fun v _ => nl - (intOf v).toNat)
  case atStart => exact ⟨0, nl, headU org, rfl, hI3', hB3, rfl, by omega, by omega, by rw [head_len]; omega⟩
  case round =>
    obtain ⟨a, k, acc, rfl, hI, hB, hacc, hk, ha, hal⟩ := hrel
    by_cases hlt : a < nl
    · have hb1 : Below w.heap.size w wr := b1.trans (hB.mono b1.size)
      have hPr : Pow wr := hP.below hb1 hP.pos
      have hbr : ByAt wr R (o + a) (nl - a) (fun i => f (a + i)) := (hby.below hb1 (Nat.le_refl _)).from (by omega)
      go_wp2_with (go_at_call 49; refine (one_calls hPr hbr (by omega) (by omega) (by omega) (by omega) (by omega)).mono ?_)
      have hok : InsOk (atX f nl org a) := insX_ok (by
        obtain ⟨l, t, fz, h1, h2⟩ := hbr
        exact (h2 0 (by omega)).2) fun h => by
        obtain ⟨l, t, fz, h1, h2⟩ := hbr
        exact (h2 1 (by omega)).2
      have hstep : linesL f nl org k a = if k = 0 then [] else txU (atX f nl org a).1 ++ [10] ++ linesL f nl org (k - 1) (a + (atX f nl org a).2.1.toNat) := by
        cases k with
        | zero => rfl
        | succ k => simp only [linesL, if_pos hlt]; rfl
      rw [hstep, if_neg (by omega)] at hacc
      clear hstep
      rintro e w4 ⟨rfl, b4⟩
      unfold atX at hok hacc
      generalize insX ((nl - a : Nat) : Int) (f (a + 0)) (f (a + 1)) (f (a + 2)) (org + a) = x at hok hacc ⊢
      obtain ⟨tx, nb, cy, tk⟩ := x
      obtain ⟨o1, ⟨o2, o3⟩, o4, o5⟩ := hok
      simp only at o1 o2 o3 hacc
      have o6 : (txU tx).length ≤ 1000 := by simpa [txU] using o1
      have hI4 := builder_kept hI b4
      have hB4 := hB.trans (b4.mono hB.size)
      have hs4 := b4.size
      simp only [insU]
      go_wp2_with (go_at_call 55; refine (Tryz.wrs_k w1.heap.size w1.heap.size (Lib.byteCells acc) _ _ ?hI ?c1 ?c2).mono ?_)
      case hI => exact hI4.alloc _
      case c1 =>
        rw [Lib.byteCells_length]
        omega
      case c2 =>
        have := hB4.size
        simp
        omega
      intro e w6 he hI6 b6 k6
      subst he
      have hb8 : w6.heap[w4.heap.size]? = some (.cells #[.string ⟨⟨txU tx⟩⟩, .int .i64 nb, .int .i64 cy, .int .i64 tk] 46 (0, 0)) := by
        refine k6 _ _ (heap_alloc_new w4 _) (fun e => ?_) (fun c fz e => by cases e)
        injection e with e
        have := hB4.size
        have h8 := hI.elim (fun h => h.lt) (fun h => h.lt)
        omega
      have c8 : w6.cell? ⟨w4.heap.size, 1, none⟩ = some (.int .i64 nb) := by rw [Lib.cell_of_heap hb8]; rfl
      have hI7 : Lib.IsBuilderF 116 5 w1.heap.size w1.heap.size (Lib.byteCells (acc ++ txU tx ++ [10])) w6 := by
        rw [List.append_assoc, Lib.byteCells_append]
        exact Or.inr hI6
      have hB7 : Below w1.heap.size w1 w6 := (hB4.alloc hB4.size _).trans b6
      clear hI6 b6 k6 hb8 hI4 hB4 hs4 b4 hbr hPr hb1
      go_wp2
      go_roundw
      case rel =>
        refine ⟨a + nb.toNat, k - 1, acc ++ txU tx ++ [10], ?_, hI7, hB7, ?_, by omega, by omega, ?_⟩
        · congr 1; omega
        · rw [← hacc]; simp only [List.append_assoc]
        · simp only [List.length_append, List.length_cons, List.length_nil]; omega
      case measure =>
        simp only [intOf]
        omega
    · have hz : linesL f nl org k a = [] := by
        cases k with
        | zero => rfl
        | succ k => simp only [linesL, if_neg hlt]
      rw [hz, List.append_nil] at hacc
      go_wp2_with (go_at_call 57; refine (Tryz.str_k w1.heap.size w1.heap.size acc _ hI hB.size).mono ?_)
      rintro e w6 ⟨rfl, _, b6, _⟩
      go_wp2
      go_ret2

      rw [← hacc]
      exact ⟨rfl, b1.trans ((hB.trans b6).mono b1.size)⟩
end Go.Proofs.YtlmacdfbdhpljaaGreatDoor

namespace Go.Proofs.YtlmacdfbdhpljaaGreatDoor
open Go.Ev Go.Ev.Tr Go.Proofs Go.RowKit
set_option maxRecDepth 1000000
theorem heyU_len (n : Int) : (hyU n).length = 4 := rfl
theorem head_same (org : Int) : [111, 114, 103, 32, 36] ++ hyU org ++ [10] = headU org := rfl
theorem cat2 (a b : List UInt8) : (⟨⟨a⟩⟩ : ByteArray) ++ ⟨⟨b⟩⟩ = ⟨⟨a ++ b⟩⟩ := by
  apply ByteArray.ext
  rw [ByteArray.data_append]
  apply Array.toList_inj.1
  rw [Array.toList_append]
set_option maxHeartbeats 4000000 in
theorem listing_ref {w : World} (hP : Pow w) {R o nl cap : Nat} {f : Nat → Int} (hby : ByAt w R o nl f) (hn : nl ≤ 4096) (hc : nl ≤ cap) {org : Int} (h0 : 0 ≤ org) (h1 : org ≤ 65535) (hf : org + nl ≤ 65536) :
    Calls Tryz.prog 54 #[.slice (some ⟨R, o, none⟩) nl cap, .int .i64 org] w fun e w' => e = .returned (.tuple #[.string ⟨⟨listU f nl org⟩⟩, .int .i64 0]) ∧ Below w.heap.size w w' := by
  have hR : ∃ l t fz, w.heap[R]? = some (.cells ⟨l⟩ t fz) := by
    obtain ⟨l, t, fz, h, _⟩ := hby
    exact ⟨l, t, fz, h⟩
  obtain ⟨l, t, fz, hR⟩ := hR
  go_enter Tryz.func54, Tryz.ntmps54
  go_wp2_with (go_at_call 78; refine (lies_calls hP hR hn hc h0 h1 hf).mono ?_)
  rintro e w1 ⟨rfl, b1⟩
  go_wp2_with (go_at_call 94; refine (hey_calls (Pow.below hP b1 hP.pos) h0 h1).mono ?_)
  rintro e w2 ⟨rfl, b2⟩
  have hB2 : Below w.heap.size w w2 := b1.trans (b2.mono b1.size)
  clear b1 b2
  go_wp2
  go_loopw [7, 8] (fun s v wr => ∃ (a k : Nat) (acc : List UInt8), s = .string ⟨⟨acc⟩⟩ ∧ v = .int .i64 a ∧ Below w.heap.size w wr ∧ acc ++ linesL f nl org k a = listU f nl org ∧ nl ≤ a + k ∧ a ≤ nl + 3 ∧ acc.length ≤ 10 + 1001 * a) (fun _ v _ => nl - (intOf v).toNat)
  case atStart => exact ⟨0, nl, headU org, by rw [← head_same, ← cat2, ← cat2], rfl, hB2, rfl, by omega, by omega, by rw [head_len]; omega⟩
  case round =>
    obtain ⟨a, k, acc, rfl, rfl, hB, hacc, hk, ha, hal⟩ := hrel
    by_cases hlt : a < nl
    · have hPr : Pow wr := hP.below hB hP.pos
      have hbr : ByAt wr R (o + a) (nl - a) (fun i => f (a + i)) := (hby.below hB (Nat.le_refl _)).from (by omega)
      go_wp2_with (go_at_call 79; refine (told_calls hPr hbr (by omega) (by omega) (by omega) (by omega) (by omega)).mono ?_)
      have hok : InsOk (atX f nl org a) := insX_ok (by
        obtain ⟨l, t, fz, h1, h2⟩ := hbr
        exact (h2 0 (by omega)).2) fun h => by
        obtain ⟨l, t, fz, h1, h2⟩ := hbr
        exact (h2 1 (by omega)).2
      have hstep : linesL f nl org k a = if k = 0 then [] else txU (atX f nl org a).1 ++ [10] ++ linesL f nl org (k - 1) (a + (atX f nl org a).2.1.toNat) := by
        cases k with
        | zero => rfl
        | succ k => simp only [linesL, if_pos hlt]; rfl
      rw [hstep, if_neg (by omega)] at hacc
      clear hstep
      rintro e w4 ⟨rfl, b4⟩
      unfold atX at hok hacc
      generalize insX ((nl - a : Nat) : Int) (f (a + 0)) (f (a + 1)) (f (a + 2)) (org + a) = x at hok hacc ⊢
      obtain ⟨tx, nb, cy, tk⟩ := x
      obtain ⟨o1, ⟨o2, o3⟩, o4, o5⟩ := hok
      simp only at o1 o2 o3 hacc
      have o6 : (txU tx).length ≤ 1000 := by simpa [txU] using o1
      have hB4 := hB.trans (b4.mono hB.size)
      simp only [insU]
      clear b4 hbr hPr
      go_wp2
      go_roundw
      case rel =>
        refine ⟨a + nb.toNat, k - 1, acc ++ txU tx ++ [10], ?_, ?_, hB4.alloc hB4.size _, ?_, by omega, by omega, ?_⟩
        · rw [← cat2, ← cat2]
        · congr 1; omega
        · rw [← hacc]; simp only [List.append_assoc]
        · simp only [List.length_append, List.length_cons, List.length_nil]; omega
      case measure =>
        simp only [intOf]
        omega
    · have hz : linesL f nl org k a = [] := by
        cases k with
        | zero => rfl
        | succ k => simp only [linesL, if_neg hlt]
      rw [hz, List.append_nil] at hacc
      go_wp2
      go_ret2
      rw [← hacc]
      exact ⟨rfl, hB⟩
end Go.Proofs.YtlmacdfbdhpljaaGreatDoor

namespace Go.Proofs.YtlmacdfbdhpljaaGreatDoor
open Go.Ev Go.Ev.Tr Go.Proofs Go.RowKit
set_option maxRecDepth 1000000
theorem relGrow {w0 : Base} {F : Nat → Prop} {G : Nat} {ro : RO} {ρ : Ren} {hp : Hp} {w w' : World} (hr : Rel w0 F G ro ρ hp w) (h' : Below w.heap.size w w') : Rel w0 F G ro ρ hp w' := by
  refine ⟨fun id b h => ?_, hr.inj, hr.sep, hr.fresh, fun B hB hF => ?_, Nat.le_trans hr.size h'.size, h'.tape.trans hr.tape, h'.os.trans hr.os, h'.output.trans hr.output, hr.glob, hr.ren, hr.le0, fun B l hl => ?_, hr.fz.sep, hr.fz.new⟩
  rotate_left 2
  · obtain ⟨t, fz, q⟩ := hr.fz.keep B l hl
    exact ⟨t, fz, by rw [h'.block B (lt_of_heap q)]; exact q⟩
  · obtain ⟨B, t, o, h1, h2, h3, h4⟩ := hr.blk id b h
    have := h'.block B (lt_of_heap h2)
    exact ⟨B, t, o, h1, by rw [this]; exact h2, h3, h4⟩
  · rw [h'.block B (Nat.lt_of_lt_of_le hB hr.size)]
    exact hr.frame B hB hF
noncomputable def errT (f : Nat) (len org : I) : T (Option (V × V)) := (callA sm1 (roW []) f [.wsl 6 (I.lit 0) len, .int .i64 org] hpW).bind fun r => T.ret (disOf r)
def errV (n : Int) : V := .tup [.str [], .int .i64 (I.lit n)]
def errO (n : Int) : Option (V × V) := some (.str [], .int .i64 (I.lit n))
structure ErrAt (f : Nat) : Prop where
  A : ∀ n o : Int, (errT f ⟨n, 0, 281474976710656⟩ ⟨o, -9223372036854775808, -1⟩).run = some (errO 1)
  B : ∀ n o : Int, (errT f ⟨n, 0, 281474976710656⟩ ⟨o, 65536, 9223372036854775807⟩).run = some (errO 1)
  C : ∀ n o : Int, pathT [true] (errT f ⟨n, 0, 281474976710656⟩ ⟨o, 0, 65535⟩) = some ([!decide (o + n ≤ 65536)], errO 1)
  D : ∀ n o : Int, pathT [false] (errT f ⟨n, 4097, 281474976710656⟩ ⟨o, 0, 65535⟩) = some ([!decide (o + n ≤ 65536)], errO 22)
theorem err27 : ErrAt 27 := ⟨fun _ _ => by kernel_rfl, fun _ _ => by kernel_rfl, fun _ _ => by kernel_rfl, fun _ _ => by kernel_rfl⟩
theorem err54 : ErrAt 54 := ⟨fun _ _ => by kernel_rfl, fun _ _ => by kernel_rfl, fun _ _ => by kernel_rfl, fun _ _ => by kernel_rfl⟩
/-- What a Listing does. -/
def ListAt (f : Nat) : Prop := ∀ {w : World}, Pow w → ∀ {R o nl cap : Nat} {g : Nat → Int}, ByAt w R o nl g → nl ≤ 4096 → nl ≤ cap → ∀ {org : Int}, 0 ≤ org → org ≤ 65535 → org + nl ≤ 65536 →
  Calls Tryz.prog f #[.slice (some ⟨R, o, none⟩) nl cap, .int .i64 org] w fun e w' => e = .returned (.tuple #[.string ⟨⟨listU g nl org⟩⟩, .int .i64 0]) ∧ Below w.heap.size w w'
theorem list27 : ListAt 27 := fun hP _ _ _ _ _ h1 h2 h3 _ h4 h5 h6 => listing_walk hP h1 h2 h3 h4 h5 h6
theorem list54 : ListAt 54 := fun hP _ _ _ _ _ h1 h2 h3 _ h4 h5 h6 => listing_ref hP h1 h2 h3 h4 h5 h6
def listSum : Summ := fun ro hp args => match args with
  | [.slice b es o len _ chi, .int k org] => match Nat.beq es 1 && decide (k = .i64) && isPow ro && (ile (-9223372036854775808) org.lo && ile org.hi 9223372036854775807 && (ile len.hi 281474976710656 && ile chi magicS)) with
    | true => match hp.at ro b with
      | some blk => match bytesOf blk o len with
        | some q => .br q.1 (.br (decide (0 ≤ org.n ∧ org.n ≤ 65535 ∧ org.n + len.n ≤ 65536)) (.br (decide (len.n ≤ 4096)) (.ret (.ret (.tup [.ssym (listU (gB q.2 len.n) len.n.toNat org.n), .int .i64 (I.lit 0)]), hp)) (.ret (.ret (errV 22), hp))) (.ret (.ret (errV 1), hp))) .fail
        | none => .fail
      | none => .fail
    | false => .fail
  | _ => .fail
theorem linesL_len {f : Nat → Int} {n : Nat} {org : Int} (hb : ∀ i, i < n → 0 ≤ f i ∧ f i ≤ 255) : ∀ (k a : Nat), (linesL f n org k a).length ≤ 1001 * k
  | 0, _ => by simp [linesL]
  | k + 1, a => by
    simp only [linesL]
    split
    · rename_i h
      have hok : InsOk (atX f n org a) := insX_ok (hb _ (by omega)) fun h => hb _ (by omega)
      have h1 : (txU (atX f n org a).1).length ≤ 1000 := by simpa [txU] using hok.len
      have := linesL_len (org := org) hb k (a + (atX f n org a).2.1.toNat)
      simp only [List.length_append, List.length_cons, List.length_nil]
      omega
    · simp
theorem list_at {f : Nat} (hf : fns.get f = some (fnOf f)) (he : ErrAt f) (hl' : ListAt f) : SumAt f listSum := by
  intro ro hp args r hr w0 F ρ w l hrel hl
  unfold listSum at hr
  split at hr <;> try (cases hr; done)
  rename_i b es o len clo chi k org
  split at hr <;> try (cases hr; done)
  rename_i hc
  simp only [Bool.and_eq_true, decide_eq_true_eq, ile_iff] at hc
  obtain ⟨⟨⟨c1, rfl⟩, c4⟩, ⟨o1, o2⟩, l1, ch⟩ := hc
  have c1 := Nat.eq_of_beq_eq_true c1
  subst c1
  split at hr <;> try (cases hr; done)
  rename_i blk hblk
  split at hr <;> try (cases hr; done)
  rename_i q hq
  simp only [T.run] at hr
  cases hcond : q.1 with
  | false => rw [hcond] at hr; cases hr
  | true =>
    rw [hcond] at hr
    simp only [cond_true] at hr
    obtain ⟨x, xs, rfl, ⟨B, tot, n, nl, cap, g1, rfl, g2, g3, g4, g5, g6, g7⟩, y, ys, rfl, ⟨m, rfl, hm⟩, hnil⟩ := hl
    have e : ys = [] := hnil
    subst e
    obtain ⟨B', tot', ob, e1, e2, e3, _⟩ := hrel.blk b blk hblk
    rw [g1] at e1
    obtain ⟨rfl, rfl⟩ := Prod.mk.inj (Option.some.inj e1)
    have hby := bytesOf_sound hq hcond e2 e3 g2 g3 g6 g7
    have hP := pow_of hrel c4
    have en := g3.1
    have em := hm.1
    have lb := g3.2
    have mb := hm.2
    refine ⟨callsAt f _ hf _, ?_⟩
    have bad : ∀ {k : Int} {L O : I}, (errT f L O).run = some (errO k) → IR L nl → IR O m → Calls Tryz.prog f ⟨[.slice (some ⟨B, n, none⟩) nl cap, .int .i64 m]⟩ w (EndR w0 F 6 ro ρ (.ret (errV k), hp)) := fun {k L O} h hL hO => by
      obtain ⟨l', t', fz', hw', _⟩ := hby
      obtain ⟨hp', h1⟩ := disOf_run h
      exact (winCall (callAOK sm1_ok) h1 rfl hrel c4 (B := B) (n := n) (xs := []) ⟨l', t', fz', hw', fun i x hx => by simp at hx⟩ ⟨_, _, rfl, ⟨B, n, 0, nl, cap, rfl, rfl, IR.lit 0, hL, g6⟩, _, _, rfl, ⟨m, rfl, hO⟩, rfl⟩).2
    have irL : IR ⟨nl, 0, 281474976710656⟩ nl := ⟨rfl, by show (0 : Int) ≤ nl; omega, by show (nl : Int) ≤ 281474976710656; omega⟩
    cases hv : decide (0 ≤ org.n ∧ org.n ≤ 65535 ∧ org.n + len.n ≤ 65536) with
    | false =>
      rw [hv] at hr
      simp only [cond_false, Option.some.injEq] at hr
      subst hr
      have hv := of_decide_eq_false hv
      by_cases p1 : m < 0
      · exact bad (he.A nl m) irL ⟨rfl, by show (-9223372036854775808 : Int) ≤ m; omega, by show m ≤ -1; omega⟩
      · by_cases p2 : 65535 < m
        · exact bad (he.B nl m) irL ⟨rfl, by show (65536 : Int) ≤ m; omega, by show m ≤ 9223372036854775807; omega⟩
        · refine bad (pathT_run (he.C nl m) ?_) irL ⟨rfl, by show (0 : Int) ≤ m; omega, by show m ≤ 65535; omega⟩
          rw [decide_eq_false (show ¬ (m + (nl : Int) ≤ 65536) by omega)]; rfl
    | true =>
      rw [hv] at hr
      simp only [cond_true] at hr
      have hv := of_decide_eq_true hv
      cases h4 : decide (len.n ≤ 4096) with
      | false =>
        rw [h4] at hr
        simp only [cond_false, Option.some.injEq] at hr
        subst hr
        have h4 := of_decide_eq_false h4
        refine bad (pathT_run (he.D nl m) ?_) ⟨rfl, by show (4097 : Int) ≤ nl; omega, by show (nl : Int) ≤ 281474976710656; omega⟩ ⟨rfl, by show (0 : Int) ≤ m; omega, by show m ≤ 65535; omega⟩
        rw [decide_eq_true (show m + (nl : Int) ≤ 65536 by omega)]; rfl
      | true =>
        rw [h4] at hr
        simp only [cond_true, Option.some.injEq] at hr
        subst hr
        have h4 := of_decide_eq_true h4
        have hby' : ByAt w B n nl (gB q.2 nl) := by
          obtain ⟨l', t', fz', hw', hb'⟩ := hby
          refine ⟨l', t', fz', hw', fun i hi => ?_⟩
          have e : gB q.2 nl i = q.2 i := by unfold gB; rw [if_pos (by omega)]
          rw [e]; exact hb' i hi
        refine (hl' hP hby' (by omega) g6 (show 0 ≤ m by omega) (by omega) (by omega)).mono fun e w' ⟨h1, h2⟩ => ⟨ρ, Ren.le.refl _, relGrow hrel h2, _, h1, ?_⟩
        refine ⟨_, rfl, _, _, rfl, ⟨?_, ?_⟩, _, _, rfl, ⟨0, rfl, IR.lit 0⟩, rfl⟩
        · show Value.string ⟨⟨listU (gB q.2 nl) nl m⟩⟩ = Value.string ⟨⟨listU (gB q.2 len.n) len.n.toNat org.n⟩⟩
          rw [show len.n.toNat = nl by omega, em, en]
        · obtain ⟨l', t', fz', _, hb'⟩ := hby'
          have h7 := linesL_len (f := gB q.2 nl) (n := nl) (org := m) (fun i hi => (hb' i hi).2) nl 0
          show (listU (gB q.2 len.n) len.n.toNat org.n).length ≤ 281474976710656
          rw [show len.n.toNat = nl by omega, ← em, ← en]
          have h8 := head_len m
          simp only [listU, List.length_append, h8]
          omega
theorem list27_at : SumAt 27 listSum := list_at (by kernel_rfl) err27 list27
theorem list54_at : SumAt 54 listSum := list_at (by kernel_rfl) err54 list54
end Go.Proofs.YtlmacdfbdhpljaaGreatDoor

namespace Go.Proofs.YtlmacdfbdhpljaaGreatDoor
open Go.Ev Go.Ev.Tr Go.Proofs
set_option maxRecDepth 1000000
noncomputable def smI (f : Nat) : Option Summ := match Nat.beq f 27 with
  | true => some listSum
  | false => match Nat.beq f 54 with
    | true => some listSum
    | false => smH0 f
noncomputable def viewI (lo hi : Int) (s0 : Nat) (xs : List Int) (n clo org : Int) : T Bool := (callA smI (roG s0 xs) 8 [argV lo hi (pl s0) n clo, i64V org] (startHp 7 1000000)).bind fun r => .ret (viewH r)
def gI1 (s0 : Nat) (xs : List Int) (n : Int) : Nat → Int := fun i => gB' s0 xs s0 n (0 + i)
def gI2 (s0 : Nat) (xs : List Int) : Nat → Int := fun i => xfA s0 xs ((s0 : Int).toNat + i)
def InR (s0 : Nat) (xs : List Int) (lo hi : Int) : Prop := ∀ n clo org : Int, pathT (List.replicate 18 true) (viewI lo hi s0 xs n clo org) =
    some (cL1 lo hi s0 xs n clo ++ [decide (0 ≤ org ∧ org ≤ 65535 ∧ org + (n - 0) ≤ 65536), decide (n - 0 ≤ 4096)] ++ cL2 lo hi s0 xs n ++ [decide (0 ≤ org ∧ org ≤ 65535 ∧ org + n ≤ 65536), decide (n ≤ 4096)] ++ cL3 s0 xs n ++ [bytesEq (listU (gB (gI1 s0 xs n) (n - 0)) (n - 0).toNat org) (listU (gB (gI2 s0 xs) n) n.toNat org)], true)
def BigR (s0 : Nat) (xs : List Int) (lo hi : Int) : Prop := ∀ n clo org : Int, pathT (List.replicate 7 true ++ [false] ++ List.replicate 7 true ++ [false, true]) (viewI lo hi s0 xs n clo org) =
    some (cL1 lo hi s0 xs n clo ++ [decide (0 ≤ org ∧ org ≤ 65535 ∧ org + (n - 0) ≤ 65536), decide (n - 0 ≤ 4096)] ++ cL2 lo hi s0 xs n ++ [decide (0 ≤ org ∧ org ≤ 65535 ∧ org + n ≤ 65536), decide (n ≤ 4096)] ++ cL3 s0 xs n, true)
def OutR (s0 : Nat) (xs : List Int) (lo hi : Int) : Prop := ∀ n clo org : Int, pathT (List.replicate 6 true ++ [false] ++ List.replicate 6 true ++ [false, true]) (viewI lo hi s0 xs n clo org) =
    some (cL1 lo hi s0 xs n clo ++ [decide (0 ≤ org ∧ org ≤ 65535 ∧ org + (n - 0) ≤ 65536)] ++ cL2 lo hi s0 xs n ++ [decide (0 ≤ org ∧ org ≤ 65535 ∧ org + n ≤ 65536)] ++ cL3 s0 xs n, true)
theorem inA (s0 : Nat) (xs : List Int) : InR s0 xs 0 499 := fun _ _ _ => by kernel_rfl
theorem inB (s0 : Nat) (xs : List Int) : InR s0 xs 500 140737488351232 := fun _ _ _ => by kernel_rfl
theorem bigA (s0 : Nat) (xs : List Int) : BigR s0 xs 0 499 := fun _ _ _ => by kernel_rfl
theorem bigB (s0 : Nat) (xs : List Int) : BigR s0 xs 500 140737488351232 := fun _ _ _ => by kernel_rfl
theorem outA (s0 : Nat) (xs : List Int) : OutR s0 xs 0 499 := fun _ _ _ => by kernel_rfl
theorem outB (s0 : Nat) (xs : List Int) : OutR s0 xs 500 140737488351232 := fun _ _ _ => by kernel_rfl
/-! ### no slice at all -/
def headV (org : Int) : V := .str ([I.lit 111, I.lit 114, I.lit 103, I.lit 32, I.lit 36] ++ hex4 org ++ [I.lit 10])
/-- Listing of no bytes. -/
def listSumN : Summ := fun ro hp args => match args with
  | [.slice b es _ len _ _, .int k org] => match Nat.beq es 1 && decide (k = .i64) && isPow ro && (ile (-9223372036854775808) org.lo && ile org.hi 9223372036854775807) && (ieq len.lo 0 && ieq len.hi 0) with
    | true => match hp.at ro b with
      | some (.cells _) => .br (decide (0 ≤ org.n ∧ org.n ≤ 65535)) (.ret (.ret (.tup [headV org.n, .int .i64 (I.lit 0)]), hp)) (.ret (.ret (errV 1), hp))
      | _ => .fail
    | false => .fail
  | _ => .fail
noncomputable def smJ (f : Nat) : Option Summ := match Nat.beq f 27 with
  | true => some listSumN
  | false => match Nat.beq f 15 with
    | true => some (trueSum noArgs)
    | false => smQ f
noncomputable def viewJ (org : I) : T Bool := (callA smJ ro10 8 [.nils, .int .i64 org] (startHp 6 1000000)).bind fun r => .ret (viewH r)
end Go.Proofs.YtlmacdfbdhpljaaGreatDoor

namespace Go.Proofs.YtlmacdfbdhpljaaGreatDoor
open Go.Ev Go.Ev.Tr Go.Proofs Go.ChangeShapes Go.WideShapes Go.ChangeAt Go.RowKit
set_option maxRecDepth 1000000
theorem hexs_in : ∀ k, k < 16 → 48 ≤ hexs.getD k 0 ∧ hexs.getD k 0 ≤ 102 := by decide
theorem hexI_ok {m : Int} (h0 : 0 ≤ m) (h1 : m < 16) : 0 ≤ (hexI m).lo ∧ (hexI m).lo ≤ (hexI m).n ∧ (hexI m).n ≤ (hexI m).hi ∧ (hexI m).hi ≤ 255 := by
  obtain ⟨a, b⟩ := hexs_in m.toNat (by omega)
  exact ⟨show (0 : Int) ≤ 48 by decide, a, b, show (102 : Int) ≤ 255 by decide⟩
theorem lit_ok {n : Int} (h0 : 0 ≤ n) (h1 : n ≤ 255) : 0 ≤ (I.lit n).lo ∧ (I.lit n).lo ≤ (I.lit n).n ∧ (I.lit n).n ≤ (I.lit n).hi ∧ (I.lit n).hi ≤ 255 := ⟨h0, Int.le_refl _, Int.le_refl _, h1⟩
theorem headV_VR {ρ : Ren} {m : Int} (h0 : 0 ≤ m) (h1 : m ≤ 65535) : VR ρ (headV m) (.string ⟨⟨headU m⟩⟩) := by
  refine ⟨rfl, fun i hi => ?_⟩
  simp only [hex4, List.mem_append, List.mem_cons, List.not_mem_nil, or_false] at hi
  rcases hi with ((rfl | rfl | rfl | rfl | rfl) | rfl | rfl | rfl | rfl) | rfl
  · exact lit_ok (by decide) (by decide)
  · exact lit_ok (by decide) (by decide)
  · exact lit_ok (by decide) (by decide)
  · exact lit_ok (by decide) (by decide)
  · exact lit_ok (by decide) (by decide)
  · exact hexI_ok (by omega) (by omega)
  · exact hexI_ok (by omega) (by omega)
  · exact hexI_ok (by omega) (by omega)
  · exact hexI_ok (by omega) (by omega)
  · exact lit_ok (by decide) (by decide)
theorem listN_at : SumAt 27 listSumN := by
  intro ro hp args r hr w0 F ρ w l hrel hl
  unfold listSumN at hr
  split at hr <;> try (cases hr; done)
  rename_i b es o len clo chi k org
  split at hr <;> try (cases hr; done)
  rename_i hc
  simp only [Bool.and_eq_true, decide_eq_true_eq, ile_iff, ieq_iff] at hc
  obtain ⟨⟨⟨⟨c1, rfl⟩, c4⟩, ⟨o1, o2⟩⟩, l1, l2⟩ := hc
  have c1 := Nat.eq_of_beq_eq_true c1
  subst c1
  split at hr <;> try (cases hr; done)
  rename_i cs hblk
  simp only [T.run] at hr
  obtain ⟨x, xs, rfl, ⟨B, tot, n, nl, cap, g1, rfl, g2, g3, g4, g5, g6, g7⟩, y, ys, rfl, ⟨m, rfl, hm⟩, hnil⟩ := hl
  have e : ys = [] := hnil
  subst e
  obtain ⟨B', tot', ob, e1, e2, e3, _⟩ := hrel.blk b _ hblk
  rw [g1] at e1
  obtain ⟨rfl, rfl⟩ := Prod.mk.inj (Option.some.inj e1)
  obtain ⟨lc, t, fz, rfl, _⟩ := e3
  have hP := pow_of hrel c4
  have en := g3.1
  have em := hm.1
  have lb := g3.2
  have mb := hm.2
  have hnl : nl = 0 := by omega
  subst hnl
  have hby : ByAt w B n 0 (fun _ => 0) := ⟨lc, t, fz, e2, fun i hi => by omega⟩
  refine ⟨callsAt 27 _ (by kernel_rfl : fns.get 27 = some (fnOf 27)) _, ?_⟩
  have irL : IR ⟨0, 0, 281474976710656⟩ (0 : Nat) := ⟨rfl, by decide, by decide⟩
  have bad : ∀ {k : Int} {L O : I}, (errT 27 L O).run = some (errO k) → IR L (0 : Nat) → IR O m → Calls Tryz.prog 27 ⟨[.slice (some ⟨B, n, none⟩) 0 cap, .int .i64 m]⟩ w (EndR w0 F 6 ro ρ (.ret (errV k), hp)) := fun {k L O} h hL hO => by
    obtain ⟨hp', h1⟩ := disOf_run h
    exact (winCall (callAOK sm1_ok) h1 rfl hrel c4 (B := B) (n := n) (xs := []) ⟨lc, t, fz, e2, fun i x hx => by simp at hx⟩ ⟨_, _, rfl, ⟨B, n, 0, 0, cap, rfl, rfl, IR.lit 0, hL, g6⟩, _, _, rfl, ⟨m, rfl, hO⟩, rfl⟩).2
  cases hv : decide (0 ≤ org.n ∧ org.n ≤ 65535) with
  | false =>
    rw [hv] at hr
    simp only [cond_false, Option.some.injEq] at hr
    subst hr
    have hv := of_decide_eq_false hv
    by_cases p1 : m < 0
    · exact bad (err27.A 0 m) irL ⟨rfl, by show (-9223372036854775808 : Int) ≤ m; omega, by show m ≤ -1; omega⟩
    · exact bad (err27.B 0 m) irL ⟨rfl, by show (65536 : Int) ≤ m; omega, by show m ≤ 9223372036854775807; omega⟩
  | true =>
    rw [hv] at hr
    simp only [cond_true, Option.some.injEq] at hr
    subst hr
    have hv := of_decide_eq_true hv
    refine (list27 hP hby (by omega) g6 (show 0 ≤ m by omega) (by omega) (by omega)).mono fun e w' ⟨h1, h2⟩ => ⟨ρ, Ren.le.refl _, relGrow hrel h2, _, h1, ?_⟩
    have e : listU (fun _ => 0) 0 m = headU m := by
      unfold listU
      simp only [linesL, List.append_nil]
    rw [e, ← em]
    exact ⟨_, rfl, _, _, rfl, headV_VR (by omega) (by omega), _, _, rfl, ⟨0, rfl, IR.lit 0⟩, rfl⟩
theorem smI_ok : ∀ f s, smI f = some s → SumAt f s := sm_cons (sm_cons smH0_ok list54_at) list27_at
theorem smJ_ok : ∀ f s, smJ f = some s → SumAt f s := sm_cons (sm_cons smQ_ok awake_at) listN_at
def cJ (org : Int) : Bool := let x := fun k => ((hex4 org).getD k (I.lit 0)).n; (x 0 == x 0 && (x 1 == x 1 && (x 2 == x 2 && x 3 == x 3)))
theorem viewJ_in (org : Int) : pathT [true, true] (viewJ ⟨org, 0, 65535⟩) = some ([decide (0 ≤ org ∧ org ≤ 65535), cJ org], true) := by kernel_rfl
theorem viewJ_lo (org : Int) : pathT [false] (viewJ ⟨org, -9223372036854775808, -1⟩) = some ([decide (0 ≤ org ∧ org ≤ 65535)], true) := by kernel_rfl
theorem viewJ_hi (org : Int) : pathT [false] (viewJ ⟨org, 65536, 9223372036854775807⟩) = some ([decide (0 ≤ org ∧ org ≤ 65535)], true) := by kernel_rfl
theorem viewJ_run {org : Int} (ho : In64 org) : ∃ o : I, IR o org ∧ (viewJ o).run = some true := by
  obtain ⟨o1, o2⟩ := ho
  by_cases p1 : org < 0
  · exact ⟨⟨org, -9223372036854775808, -1⟩, ⟨rfl, o1, by show org ≤ -1; omega⟩, pathT_run (viewJ_lo org) (by rw [decide_eq_false (by omega)])⟩
  · by_cases p2 : 65535 < org
    · exact ⟨⟨org, 65536, 9223372036854775807⟩, ⟨rfl, by show (65536 : Int) ≤ org; omega, o2⟩, pathT_run (viewJ_hi org) (by rw [decide_eq_false (by omega)])⟩
    · refine ⟨⟨org, 0, 65535⟩, ⟨rfl, by show (0 : Int) ≤ org; omega, by show org ≤ 65535; omega⟩, pathT_run (viewJ_in org) ?_⟩
      rw [decide_eq_true (by omega)]
      simp only [cJ, beq_self_eq_true, Bool.and_self]
theorem gI_eq {s0 : Nat} {xs : List Int} {n : Int} : gB (gI1 s0 xs n) (n - 0) = gB (gI2 s0 xs) n := by
  funext m
  exact gB_cp (s := s0) (n := n) (N := n + 64) (xf := xfA s0 xs) (f := fun _ => 0) m
theorem viewI_run {s0 : Nat} {xs : List Int} {lo hi n clo org : Int} (hI : InR s0 xs lo hi) (hB : BigR s0 xs lo hi) (hO : OutR s0 xs lo hi) (h1 : 0 ≤ n) (h2 : n ≤ 140737488351232) (h3 : n ≤ (xs.length : Int)) (h4 : lo ≤ n) (h5 : n ≤ hi) : (viewI lo hi s0 xs n clo org).run = some true := by
  by_cases hv : 0 ≤ org ∧ org ≤ 65535 ∧ org + n ≤ 65536
  · by_cases hb : n ≤ 4096
    · refine pathT_run (hI n clo org) ?_
      rw [cL1_t h1 h2 h3, cL2_t h1 h2 h3 h4 h5, cL3_t h1, decide_eq_true (show 0 ≤ org ∧ org ≤ 65535 ∧ org + (n - 0) ≤ 65536 by omega), decide_eq_true hv, decide_eq_true (show n - 0 ≤ 4096 by omega), decide_eq_true hb, gI_eq, show (n - 0).toNat = n.toNat by omega, bytesEq_refl]
      rfl
    · refine pathT_run (hB n clo org) ?_
      rw [cL1_t h1 h2 h3, cL2_t h1 h2 h3 h4 h5, cL3_t h1, decide_eq_true (show 0 ≤ org ∧ org ≤ 65535 ∧ org + (n - 0) ≤ 65536 by omega), decide_eq_true hv, decide_eq_false (show ¬ (n - 0 ≤ 4096) by omega), decide_eq_false hb]
      rfl
  · refine pathT_run (hO n clo org) ?_
    rw [cL1_t h1 h2 h3, cL2_t h1 h2 h3 h4 h5, cL3_t h1, decide_eq_false (show ¬ (0 ≤ org ∧ org ≤ 65535 ∧ org + (n - 0) ≤ 65536) by omega), decide_eq_false hv]
    rfl
/-- A row, as the reading's weight tells it. -/
theorem rowW {H : Type} {ts : List TypeId} {d : DataW H} {r : List (DataW H)} (hwt : (DataW.weightsEach Tryz.prog (36 :: ts) (d :: r)).all (· ≤ reachBytes) = true) {v : Value} {W : World}
    (h : v = .slice none 0 0 ∨ ∃ B off len cap zs row t fz, v = .slice (some ⟨B, off, none⟩) len cap ∧ RowB W B off len cap zs row t fz ∧ d = .slice (lits .u8 (zs.take len)) (lits .u8 (zs.drop len))) :
    v = .slice none 0 0 ∨ ∃ B off len cap zs row t fz, v = .slice (some ⟨B, off, none⟩) len cap ∧ RowB W B off len cap zs row t fz ∧ cap ≤ 140737488351232 := by
  rcases h with h | ⟨B, off, len, cap, zs, row, t, fz, h1, h2, h3⟩
  · exact .inl h
  · refine .inr ⟨B, off, len, cap, zs, row, t, fz, h1, h2, ?_⟩
    subst h3
    have h4 := sized_slice hwt (j := 0) rfl rfl und36
    have h5 : Tryz.prog.bytesOf 5 = 1 := by kernel_rfl
    rw [h5] at h4
    simp only [lits, List.length_map, List.length_take, List.length_drop, reachBytes] at h4
    have h6 := h2.hl
    have h7 := h2.hz
    omega
/-- The law of Listings. -/
theorem listings_law {W : World} (hL : laidMetH Tryz.prog laidL W) (hsh : W.ShapedOpen Tryz.prog) {v : Value} (org : Int)
    (hv : v = .slice none 0 0 ∨ ∃ B off len cap zs row t fz, v = .slice (some ⟨B, off, none⟩) len cap ∧ RowB W B off len cap zs row t fz ∧ cap ≤ 140737488351232) (ho : In64 org) :
    Calls Tryz.prog 8 #[v, .int .i64 org] W fun e W' => e = .returned (.bool true) ∧ W.keptBut W' (fun _ => False) := by
  rcases hv with rfl | ⟨B, off, len, cap, zs, row, t, fz, rfl, hR, hcap⟩
  · obtain ⟨o, h2, h3⟩ := viewJ_run ho
    exact lawNil (l := [.slice none 0 0, .int .i64 org]) smJ_ok h3 (rel0 hL hsh) ⟨_, _, rfl, rfl, _, _, rfl, ⟨_, rfl, h2⟩, rfl⟩
  · have hl := hR.hl
    have hz := hR.hz
    have hrel := relB hL hsh hR
    by_cases h : len < 500
    · exact lawNil (l := [.slice (some ⟨B, off, none⟩) len cap, .int .i64 org]) smI_ok (viewI_run (n := len) (clo := len) (org := org) (inA off zs) (bigA off zs) (outA off zs) (by omega) (by omega) (by omega) (by omega) (by omega)) hrel
        ⟨_, _, rfl, argV_VR hR (by omega) (by omega) (by simp only [magicS]; omega), _, _, rfl, i64V_VR ho, rfl⟩
    · exact lawNil (l := [.slice (some ⟨B, off, none⟩) len cap, .int .i64 org]) smI_ok (viewI_run (n := len) (clo := len) (org := org) (inB off zs) (bigB off zs) (outB off zs) (by omega) (by omega) (by omega) (by omega) (by omega)) hrel
        ⟨_, _, rfl, argV_VR hR (by omega) (by omega) (by simp only [magicS]; omega), _, _, rfl, i64V_VR ho, rfl⟩
end Go.Proofs.YtlmacdfbdhpljaaGreatDoor
