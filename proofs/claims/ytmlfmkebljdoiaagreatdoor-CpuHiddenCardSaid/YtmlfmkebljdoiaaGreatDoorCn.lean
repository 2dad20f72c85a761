/- Own text: of the model: how far a cycle's number goes; the summary of a cycle that says so. -/
import Derived.Test.YtmlfmkebljdoiaaGreatDoorCl
namespace Go.Proofs.YtmlfmkebljdoiaaGreatDoor
open Go.Ev Go.Ev.Tr Go.Proofs
set_option maxRecDepth 1000000
def Keeps (c : Cpu) (r : ActR) : Prop := r.c.step = c.step ∧ r.c.disp = c.disp
theorem keeps_bif {c : Cpu} {b : Bool} {x y : ActR} (h1 : Keeps c x) (h2 : Keeps c y) : Keeps c (bif b then x else y) := by cases b <;> assumption
theorem two_k {c : Cpu} {d s : Int} : Keeps c (two c d s) := by
  unfold two
  repeat' first | exact ⟨rfl, rfl⟩ | apply keeps_bif
theorem backFrom_k {c : Cpu} {d s : Int} : Keeps c (backFromM c d s) := by
  unfold backFromM
  repeat' first | exact ⟨rfl, rfl⟩ | apply keeps_bif
theorem pushing_k {c : Cpu} {s v : Int} : Keeps c (pushingM c s v) := by
  unfold pushingM
  repeat' first | exact ⟨rfl, rfl⟩ | apply keeps_bif
theorem keeps_t {c : Cpu} {r : ActR} {w : W3} {b : Bool} (h : Keeps c r) : Keeps c ⟨r.c, w, b⟩ := h
theorem keeps_u {c : Cpu} {r : ActR} {g : Rg} {w : W3} {b : Bool} (h : Keeps c r) : Keeps c ⟨updCur r.c g, w, b⟩ := h
theorem keeps_upd {c c0 : Cpu} {g : Rg} {w : W3} {b : Bool} (h1 : c.step = c0.step) (h2 : c.disp = c0.disp) : Keeps c0 ⟨updCur c g, w, b⟩ := ⟨h1, h2⟩
theorem keeps_c {c c0 : Cpu} {w : W3} {b : Bool} (h1 : c.step = c0.step) (h2 : c.disp = c0.disp) : Keeps c0 ⟨c, w, b⟩ := ⟨h1, h2⟩
theorem accessed_k {op : Nat} {c c0 : Cpu} {d : Int} (h1 : c.step = c0.step) (h2 : c.disp = c0.disp) : Keeps c0 (accessedM op c d) := by
  unfold accessedM; split <;> exact ⟨h1, h2⟩
theorem callEnd_k {c c0 : Cpu} {s : Int} (h1 : c.step = c0.step) (h2 : c.disp = c0.disp) : Keeps c0 (callEnd c s) := by
  unfold callEnd
  have h := pushing_k (c := c) (s := s - 2) (v := c.cur.PC)
  exact keeps_bif ⟨h.1.trans h1, h.2.trans h2⟩ ⟨h.1.trans h1, h.2.trans h2⟩
theorem secondEnd_k {c c0 : Cpu} {d : Int} {n : Nat} (h1 : c.step = c0.step) (h2 : c.disp = c0.disp) : Keeps c0 (secondEnd c d n) := by
  unfold secondEnd; split <;> split <;> exact keeps_upd h1 h2
theorem offsetEnd_k {op : Nat} {c : Cpu} : Keeps c (offsetEnd op c) := by
  unfold offsetEnd; split <;> exact keeps_upd rfl rfl
theorem act_keeps (op : Nat) (c : Cpu) (d s : Int) : Keeps c (actM op c d s) := by
  unfold actM
  split
  · exact (by first | exact keeps_upd rfl rfl | exact keeps_c rfl rfl)
  · exact keeps_bif two_k two_k
  · exact keeps_bif (by first | exact keeps_upd rfl rfl | exact keeps_c rfl rfl) (by first | exact keeps_upd rfl rfl | exact keeps_c rfl rfl)
  · exact keeps_bif (by first | exact keeps_upd rfl rfl | exact keeps_c rfl rfl) (by first | exact keeps_upd rfl rfl | exact keeps_c rfl rfl)
  · unfold countA; split
    · exact keeps_bif (by first | exact keeps_upd rfl rfl | exact keeps_c rfl rfl) (keeps_bif (by first | exact keeps_upd rfl rfl | exact keeps_c rfl rfl) (by first | exact keeps_upd rfl rfl | exact keeps_c rfl rfl))
    · exact (by first | exact keeps_upd rfl rfl | exact keeps_c rfl rfl)
  · unfold fillA
    refine keeps_bif (by first | exact keeps_upd rfl rfl | exact keeps_c rfl rfl) (keeps_bif ?_ (by first | exact keeps_upd rfl rfl | exact keeps_c rfl rfl))
    split <;> exact (by first | exact keeps_upd rfl rfl | exact keeps_c rfl rfl)
  · exact (by first | exact keeps_upd rfl rfl | exact keeps_c rfl rfl)
  · exact keeps_bif two_k (keeps_bif two_k (keeps_bif two_k two_k))
  · exact keeps_bif (by first | exact keeps_upd rfl rfl | exact keeps_c rfl rfl) (by first | exact keeps_upd rfl rfl | exact keeps_c rfl rfl)
  · exact keeps_bif (by first | exact keeps_upd rfl rfl | exact keeps_c rfl rfl) (by first | exact keeps_upd rfl rfl | exact keeps_c rfl rfl)
  · exact keeps_bif (by first | exact keeps_upd rfl rfl | exact keeps_c rfl rfl) (by first | exact keeps_upd rfl rfl | exact keeps_c rfl rfl)
  · unfold nearA
    refine keeps_bif (by first | exact keeps_upd rfl rfl | exact keeps_c rfl rfl) (keeps_bif ?_ (by first | exact keeps_upd rfl rfl | exact keeps_c rfl rfl))
    split
    · exact (by first | exact keeps_upd rfl rfl | exact keeps_c rfl rfl)
    · exact keeps_bif (by first | exact keeps_upd rfl rfl | exact keeps_c rfl rfl) (by first | exact keeps_upd rfl rfl | exact keeps_c rfl rfl)
  · exact keeps_bif (by first | exact keeps_upd rfl rfl | exact keeps_c rfl rfl) (keeps_bif (keeps_bif (by first | exact keeps_upd rfl rfl | exact keeps_c rfl rfl) backFrom_k) backFrom_k)
  · exact keeps_bif (by first | exact keeps_upd rfl rfl | exact keeps_c rfl rfl) (keeps_bif (by first | exact keeps_upd rfl rfl | exact keeps_c rfl rfl) (by first | exact keeps_upd rfl rfl | exact keeps_c rfl rfl))
  · exact keeps_bif two_k (keeps_bif two_k two_k)
  · unfold callA
    have h := two_k (c := c) (d := d) (s := s)
    refine keeps_bif h (keeps_bif ?_ (callEnd_k h.1 h.2))
    split
    · exact callEnd_k h.1 h.2
    · exact keeps_bif h (callEnd_k h.1 h.2)
  · exact keeps_bif pushing_k pushing_k
  · exact keeps_bif (by first | exact keeps_upd rfl rfl | exact keeps_c rfl rfl) (by first | exact keeps_upd rfl rfl | exact keeps_c rfl rfl)
  · exact keeps_bif pushing_k pushing_k
  · exact backFrom_k
  · unfold secondA
    refine keeps_bif (by first | exact keeps_upd rfl rfl | exact keeps_c rfl rfl) (keeps_bif ?_ (keeps_bif (by first | exact keeps_upd rfl rfl | exact keeps_c rfl rfl) (secondEnd_k rfl rfl)))
    simp only
    split
    · exact (by first | exact keeps_upd rfl rfl | exact keeps_c rfl rfl)
    · exact secondEnd_k rfl rfl
  · exact keeps_bif (by first | exact keeps_upd rfl rfl | exact keeps_c rfl rfl) (keeps_bif (by first | exact keeps_upd rfl rfl | exact keeps_c rfl rfl) (accessed_k rfl rfl))
  · exact keeps_bif (by first | exact keeps_upd rfl rfl | exact keeps_c rfl rfl) (accessed_k rfl rfl)
  · unfold offsetA
    refine keeps_bif (by first | exact keeps_upd rfl rfl | exact keeps_c rfl rfl) (keeps_bif (by first | exact keeps_upd rfl rfl | exact keeps_c rfl rfl) (keeps_bif ?_ offsetEnd_k))
    split
    · exact (by first | exact keeps_upd rfl rfl | exact keeps_c rfl rfl)
    · exact offsetEnd_k
  · exact (by first | exact keeps_upd rfl rfl | exact keeps_c rfl rfl)
  · have h := two_k (c := c) (d := d) (s := s)
    exact keeps_bif h (keeps_bif h (accessed_k h.1 h.2))
  · exact keeps_bif (by first | exact keeps_upd rfl rfl | exact keeps_c rfl rfl) (by first | exact keeps_upd rfl rfl | exact keeps_c rfl rfl)
  · unfold moveA
    refine keeps_bif (by first | exact keeps_upd rfl rfl | exact keeps_c rfl rfl) (keeps_bif (by first | exact keeps_upd rfl rfl | exact keeps_c rfl rfl) ?_)
    split
    · exact (by first | exact keeps_upd rfl rfl | exact keeps_c rfl rfl)
    · split <;> exact (by first | exact keeps_upd rfl rfl | exact keeps_c rfl rfl)
  · unfold reckonA
    split
    · exact keeps_bif (by first | exact keeps_upd rfl rfl | exact keeps_c rfl rfl) (by first | exact keeps_upd rfl rfl | exact keeps_c rfl rfl)
    · exact (by first | exact keeps_upd rfl rfl | exact keeps_c rfl rfl)
theorem capOf_le (op : Nat) : capOf op ≤ 5 := by
  have h := rowTab_le op
  unfold capOf
  have := allN_get (p := fun k => Nat.ble (capTab.getD k 0) 5) (n := 29) (k := 0) (by decide) (rowTab.getD op 0) (by omega)
  simp only [Nat.zero_add] at this
  exact Nat.le_of_ble_eq_true this
/-- At its last cycle an instruction is done. -/
theorem act_done {op : Nat} {c : Cpu} {d s : Int} (h : (capOf op : Int) ≤ s) : (actM op c d s).done = true := by
  rw [act_cap h]
  have hle := rowTab_le op
  unfold capOf
  generalize hcl : rowTab.getD op 0 = cl at *
  unfold actM
  rw [hcl]
  have hc : cl = 0 ∨ cl = 1 ∨ cl = 2 ∨ cl = 3 ∨ cl = 4 ∨ cl = 5 ∨ cl = 6 ∨ cl = 7 ∨ cl = 8 ∨ cl = 9 ∨ cl = 10 ∨ cl = 11 ∨ cl = 12 ∨ cl = 13 ∨ cl = 14 ∨ cl = 15 ∨ cl = 16 ∨ cl = 17 ∨ cl = 18 ∨ cl = 19 ∨ cl = 20 ∨ cl = 21 ∨ cl = 22 ∨ cl = 23 ∨ cl = 24 ∨ cl = 25 ∨ cl = 26 ∨ cl = 27 ∨ cl = 28 := by omega
  rcases hc with rfl | rfl | rfl | rfl | rfl | rfl | rfl | rfl | rfl | rfl | rfl | rfl | rfl | rfl | rfl | rfl | rfl | rfl | rfl | rfl | rfl | rfl | rfl | rfl | rfl | rfl | rfl | rfl | rfl <;> first | rfl | skip
  · show (countA op c d 2).done = true
    unfold countA; split <;> rfl
  · show (accessedM op c d).done = true
    unfold accessedM; split <;> rfl
  · show (accessedM op c d).done = true
    unfold accessedM; split <;> rfl
  · show (offsetEnd op c).done = true
    unfold offsetEnd; split <;> rfl
  · show (accessedM op c d).done = true
    unfold accessedM; split <;> rfl
  · show (moveA op c d 1).done = true
    unfold moveA
    show ActR.done (match Nat.beq (zM op) 6 with
      | true => ⟨updCur c (setR c.cur (yM op) d), idleW, true⟩
      | false => match Nat.beq (yM op) 6 with
        | true => ⟨c, idleW, true⟩
        | false => ⟨updCur c (setR c.cur (yM op) (getR c.cur (zM op))), idleW, true⟩) = true
    split
    · rfl
    · split <;> rfl
  · show (reckonA op c d 1).done = true
    unfold reckonA; split <;> rfl
/-! ### how far a cycle's number goes -/
structure Ok (c : Cpu) : Prop where
  s0 : 0 ≤ c.step
  s8 : c.step ≤ 8
  dp : c.disp = true → c.step ≤ 4
theorem settle_step (c : Cpu) : (settleM c).step = 0 ∧ (settleM c).disp = false := by
  unfold settleM; cases c.cur.St == 0 <;> exact ⟨rfl, rfl⟩
theorem look_step (c : Cpu) (l : Int) : (lookM c l).step = c.step := by
  unfold lookM
  cases c.cur.St == 0 <;> simp only [cond_true, cond_false]
  cases c.cur.IME <;> simp only [cond_true, cond_false]
  cases !(l == 0) <;> rfl
theorem ok0 {c : Cpu} (h : c.step = 0) : Ok c := ⟨by omega, by omega, fun _ => by omega⟩
theorem fin_step (c : Cpu) (l : Int) : (finM c l).step = 0 := by
  have key : ∀ (kind : Nat) (c : Cpu), (finEnd kind c l fun c => lookM (settleM c) l).step = 0 := fun kind c => by
    have h : ∀ c, (lookM (settleM c) l).step = 0 := fun c => by rw [look_step, (settle_step c).1]
    unfold finEnd
    split
    · cases l == 0 <;> simp only [cond_true, cond_false, h]
      cases !c.cur.IME <;> simp only [cond_true, cond_false, h]
    · cases l == 0 <;> simp only [cond_true, cond_false, h]
    · exact h c
  unfold finM finK
  simp only [id]
  split
  · exact key _ _
  · cases c.due <;> exact key _ _
theorem cyc_ok {c : Cpu} {d l : Int} (h0 : 0 ≤ c.step) (hd : c.disp = false) : Ok (cycM c d l) := by
  unfold cycM actEnd
  have hk := act_keeps c.op.toNat c d c.step
  have hk : Keeps c (actR c d) := hk
  cases hdn : (actR c d).done with
  | true => exact ok0 (fin_step _ _)
  | false =>
    have hlt : c.step < capOf c.op.toNat := by
      rcases Int.lt_or_le c.step (capOf c.op.toNat) with h | h
      · exact h
      · have := act_done (c := c) (d := d) h
        unfold actR at hdn
        rw [this] at hdn; cases hdn
    have hc := capOf_le c.op.toNat
    simp only [cond_false]
    refine ⟨?_, ?_, fun h => ?_⟩
    · show 0 ≤ (actR c d).c.step
      rw [hk.1]; exact h0
    · show (actR c d).c.step ≤ 8
      rw [hk.1]; omega
    · have h : (actR c d).c.disp = true := h
      rw [hk.2, hd] at h; cases h
theorem tick_ok {c : Cpu} {d l : Int} (h : Ok c) : Ok (tickM c d l).1 := by
  unfold tickM
  cases hdp : c.disp with
  | true =>
    simp only [cond_true]
    have h4 := h.dp hdp
    unfold dispM dispK
    cases h1 : c.step == 1 <;> simp only [cond_true, cond_false, id]
    · cases h2 : c.step == 2 <;> simp only [cond_true, cond_false]
      · cases h3 : c.step == 3 <;> simp only [cond_true, cond_false]
        · cases h5 : c.step == 4 <;> simp only [cond_true, cond_false]
          · have h5' : c.step ≠ 4 := by simpa using h5
            have := h.s0
            exact ⟨by show 0 ≤ c.step + 1; omega, by show c.step + 1 ≤ 8; omega, fun _ => by show c.step + 1 ≤ 4; omega⟩
          · rw [chainK_some (fun q : Cpu × Int => q) (fun pc => (disp5 { c with step := c.step + 1 } pc, c.pick))]
            have key : ∀ (r : List (Int × Int)) (p pc : Int), (chainK r p pc fun pc => (disp5 { c with step := c.step + 1 } pc, c.pick)).1.step = 0 := by
              intro r
              induction r with
              | nil => intro p pc; exact (settle_step _).1
              | cons x r ih =>
                intro p pc
                unfold chainK
                cases p == x.1 <;> exact ih _ _
            exact ok0 (key _ _ _)
        · have h3' : c.step = 3 := by simpa using h3
          exact ⟨by show 0 ≤ c.step + 1; omega, by show c.step + 1 ≤ 8; omega, fun _ => by show c.step + 1 ≤ 4; omega⟩
      · have h3' : c.step = 2 := by simpa using h2
        exact ⟨by show 0 ≤ c.step + 1; omega, by show c.step + 1 ≤ 8; omega, fun _ => by show c.step + 1 ≤ 4; omega⟩
    · have h3' : c.step = 1 := by simpa using h1
      exact ⟨by show 0 ≤ c.step + 1; omega, by show c.step + 1 ≤ 8; omega, fun _ => by show c.step + 1 ≤ 4; omega⟩
  | false =>
    simp only [cond_false]
    cases c.mid with
    | true => exact cyc_ok (by show 0 ≤ c.step + 1; have := h.s0; omega) rfl
    | false =>
      simp only [cond_false]
      cases !(c.cur.St == 0) with
      | true =>
        simp only [cond_true]
        cases !(c.cur.St == 3) <;> simp only [cond_true, cond_false]
        · exact h
        · cases !(l == 0) <;> simp only [cond_true, cond_false]
          · exact h
          · exact ok0 (by rw [look_step, (settle_step _).1])
      | false =>
        simp only [cond_false]
        refine cyc_ok ?_ ?_
        · unfold fetchM; cases c.twice <;> exact h.s0
        · unfold fetchM; cases c.twice <;> exact hdp
def okC (c : Cpu) : Bool := !c.disp || decide (c.step ≤ 4)
theorem okC_of {c : Cpu} (h : Ok c) : okC c = true := by
  unfold okC
  cases hd : c.disp with
  | false => rfl
  | true => simp [h.dp hd]
theorem of_okC {c : Cpu} (hin : InB 8 c) (h : okC c = true) : Ok c := by
  refine ⟨hin.step.1, hin.step.2, fun hd => ?_⟩
  unfold okC at h
  rw [hd] at h
  simpa using h
/-! ### Tick, whose numbers stay small -/
noncomputable def tickFn8 : CFn := { tickFn with M := 8 }
noncomputable def tick8 : Summ := fun ro hp args => match args with
  | .ptr b o :: xs => match hp.m.get b with
    | some (.cells cs) => .br (okC (cpuOf cs)) (tickFn8.sum ro hp (.ptr b o :: xs)) .fail
    | _ => .fail
  | _ => .fail
theorem tick8_ok : tickFn8.ok call3 (fun c => okC c = true) := by
  intro c ns hin hr hk
  obtain ⟨cs, xs, v, hp', cs', u1, u2, k1, k2, k3, k4, k5, k6, k7⟩ := tickFn_ok c ns hin hr trivial
  refine ⟨cs, xs, v, hp', cs', u1, u2, k1, k2, k3, k4, k5, k6, fun ρ l h => ?_⟩
  have ho : Ok (tickFn8.out c ns) := tick_ok (of_okC hin hk)
  exact encX_VRs (k7 ρ l h) (fun _ h => h) (fun _ h => h) (fun _ h => h) (fun _ h => h) (fun _ h => h) (ci_of ho.s0 ho.s8)
theorem tick8_at : SumAt 32 tick8 := by
  intro ro hp args r hrun w0 F ρ w l hr hl
  unfold tick8 at hrun
  split at hrun <;> try (cases hrun; done)
  rename_i b o xs
  split at hrun <;> try (cases hrun; done)
  rename_i cs hcs
  simp only [T.run] at hrun
  cases hb : okC (cpuOf cs) with
  | false => rw [hb] at hrun; cases hrun
  | true =>
    rw [hb] at hrun
    have e : tickFn8.sum ro hp (.ptr b o :: xs) = ({ tickFn8 with chk := fun cs => okC (cpuOf cs) } : CFn).sum ro hp (.ptr b o :: xs) := by
      simp only [CFn.sum, hcs, hb, tickFn8, tickFn, yes]
    simp only [cond_true] at hrun
    rw [e] at hrun
    refine CFn.sound (s := { tickFn8 with chk := fun cs => okC (cpuOf cs) }) call3OK (P := fun c => okC c = true) (fun cs us ρ l hn hc hv => ?_) (fun c ns a b c' => tick8_ok c ns a b c') ro hp _ r hrun w0 F ρ w l hr hl
    have hc : okC (cpuOf cs) = true := hc
    rw [normC_cpu hn]; exact hc
end Go.Proofs.YtmlfmkebljdoiaaGreatDoor
