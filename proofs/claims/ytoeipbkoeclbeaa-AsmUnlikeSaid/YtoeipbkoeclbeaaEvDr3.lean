/- Own text: operations of a region whose order is open: what order may come, and that the written one serves all. -/
import Derived.Test.YtoeipbkoeclbeaaEvDr2
namespace Go.Ev
/-! ### masks -/
theorem foldl_or_bits {α : Type} (g : α → Nat) : ∀ (l : List α) (s b : Nat), Nat.testBit (l.foldl (fun s e => s ||| g e) s) b = true → Nat.testBit s b = true ∨ ∃ e ∈ l, Nat.testBit (g e) b = true
  | [], _, _, h => .inl h
  | e :: l, s, b, h => by
    rcases foldl_or_bits g l _ b h with h1 | ⟨e', h1, h2⟩
    · rw [Nat.testBit_or, Bool.or_eq_true] at h1
      rcases h1 with h1 | h1
      · exact .inl h1
      · exact .inr ⟨e, by simp, h1⟩
    · exact .inr ⟨e', by simp [h1], h2⟩
/-- What one operation waits for, if 'm' tells it for those before. -/
def waits (m : Nat → Nat) (o : Oper) : Nat := o.after.toList.foldl (fun s e => match Region.binds .any e with
  | true => s ||| 2 ^ e.on ||| m e.on
  | false => s) 0
theorem waits_bits {m : Nat → Nat} {o : Oper} {b : Nat} (h : Nat.testBit (waits m o) b = true) : ∃ e ∈ o.after.toList, Region.binds .any e = true ∧ (e.on = b ∨ Nat.testBit (m e.on) b = true) := by
  have e1 : waits m o = o.after.toList.foldl (fun s e => s ||| (match Region.binds .any e with
    | true => 2 ^ e.on ||| m e.on
    | false => 0)) 0 := by
    unfold waits
    congr 1
    funext s e
    cases Region.binds .any e
    · simp
    · simp [Nat.or_assoc]
  rw [e1] at h
  rcases foldl_or_bits _ _ _ _ h with h1 | ⟨e, h1, h2⟩
  · simp at h1
  · refine ⟨e, h1, ?_⟩
    cases hb : Region.binds .any e
    · rw [hb] at h2; simp at h2
    · rw [hb] at h2
      simp only [Nat.testBit_or, Bool.or_eq_true] at h2
      refine ⟨rfl, ?_⟩
      rcases h2 with h2 | h2
      · rw [Nat.testBit_two_pow] at h2; exact .inl (of_decide_eq_true h2)
      · exact .inr h2
theorem bef_eq (ops : List Oper) : ∀ (rest : List Oper) (acc : List Nat), ∃ tl, bef ops acc rest = acc.reverse ++ tl ∧ tl.length = rest.length ∧
    ∀ k o, rest[k]? = some o → tl[k]? = some (waits (fun x => (acc.reverse ++ tl.take k).getD x 0) o)
  | [], acc => ⟨[], by simp [bef], rfl, fun k o h => by simp at h⟩
  | o :: rest, acc => by
    obtain ⟨tl, h1, h2, h3⟩ := bef_eq ops rest (waits (fun x => acc.reverse.getD x 0) o :: acc)
    refine ⟨waits (fun x => acc.reverse.getD x 0) o :: tl, ?_, by simp [h2], fun k o' hk => ?_⟩
    · have : bef ops acc (o :: rest) = bef ops (waits (fun x => acc.reverse.getD x 0) o :: acc) rest := rfl
      rw [this, h1]; simp
    · cases k with
      | zero =>
        simp only [List.getElem?_cons_zero, Option.some.injEq] at hk; subst hk
        simp
      | succ k =>
        simp only [List.getElem?_cons_succ] at hk
        have := h3 k o' hk
        simpa using this
/-- The masks of a region. -/
def masksOf (ops : Array Oper) : List Nat := bef ops.toList [] ops.toList
theorem masksOf_length (ops : Array Oper) : (masksOf ops).length = ops.size := by
  obtain ⟨tl, h1, h2, _⟩ := bef_eq ops.toList ops.toList []
  unfold masksOf; rw [h1]; simpa using h2
theorem masksOf_bits {ops : Array Oper} {i b : Nat} {o : Oper} (ho : ops[i]? = some o) (h : Nat.testBit ((masksOf ops).getD i 0) b = true) :
    ∃ e ∈ o.after.toList, Region.binds .any e = true ∧ (e.on = b ∨ (e.on < i ∧ Nat.testBit ((masksOf ops).getD e.on 0) b = true)) := by
  obtain ⟨tl, h1, h2, h3⟩ := bef_eq ops.toList ops.toList []
  have hm : masksOf ops = tl := by unfold masksOf; rw [h1]; simp
  have hi := h3 i o (by simpa using ho)
  rw [hm, List.getD_eq_getElem?_getD, hi, Option.getD_some] at h
  obtain ⟨e, g1, g2, g3⟩ := waits_bits h
  refine ⟨e, g1, g2, ?_⟩
  rcases g3 with g3 | g3
  · exact .inl g3
  · refine .inr ?_
    simp only [List.reverse_nil, List.nil_append, List.getD_eq_getElem?_getD, List.getElem?_take] at g3
    by_cases hlt : e.on < i
    · rw [if_pos hlt] at g3
      exact ⟨hlt, by rw [hm, List.getD_eq_getElem?_getD]; exact g3⟩
    · rw [if_neg hlt] at g3; simp at g3
/-! ### what was tested -/
theorem okFrom_spec {opsA : Array Oper} {masks : List Nat} {k : Nat} {ok : Oper} {ck : Cls} : ∀ {l : List (Oper × Cls)} {j : Nat}, okFrom opsA masks k ok ck j l = true → ∀ y oj cj, l[y]? = some (oj, cj) →
    Nat.testBit (masks.getD (j + y) 0) k = true ∨ (ok.apart opsA oj = true ∧ compat ck cj = true)
  | [], _, _, _, _, _, h => by simp at h
  | (o, c) :: l, j, h, 0, oj, cj, hy => by
    simp only [List.getElem?_cons_zero, Option.some.injEq, Prod.mk.injEq] at hy
    obtain ⟨rfl, rfl⟩ := hy
    simp only [okFrom, Bool.and_eq_true, Bool.or_eq_true] at h
    exact h.1
  | (o, c) :: l, j, h, y + 1, oj, cj, hy => by
    simp only [List.getElem?_cons_succ] at hy
    simp only [okFrom, Bool.and_eq_true] at h
    have := okFrom_spec h.2 y oj cj hy
    rw [show j + (y + 1) = j + 1 + y by omega]; exact this
theorem okAll_spec {opsA : Array Oper} {masks : List Nat} : ∀ {l : List (Oper × Cls)} {k : Nat}, okAll opsA masks k l = true → ∀ x o c, l[x]? = some (o, c) →
    (∀ e ∈ o.after.toList, Region.binds .any e = true → e.on < k + x) ∧ ∀ y oj cj, x < y → l[y]? = some (oj, cj) → Nat.testBit (masks.getD (k + y) 0) (k + x) = true ∨ (o.apart opsA oj = true ∧ compat c cj = true)
  | [], _, _, _, _, _, h => by simp at h
  | (o, c) :: l, k, h, 0, o', c', hx => by
    simp only [List.getElem?_cons_zero, Option.some.injEq, Prod.mk.injEq] at hx
    obtain ⟨rfl, rfl⟩ := hx
    simp only [okAll, Bool.and_eq_true, List.all_eq_true] at h
    refine ⟨fun e he hb => ?_, fun y oj cj hy hl => ?_⟩
    · have := h.1.1 e he
      rw [hb] at this
      have := Nat.le_of_ble_eq_true this
      omega
    · cases y with
      | zero => omega
      | succ y =>
        simp only [List.getElem?_cons_succ] at hl
        have := okFrom_spec h.1.2 y oj cj hl
        rw [show k + (y + 1) = k + 1 + y by omega]; exact this
  | (o, c) :: l, k, h, x + 1, o', c', hx => by
    simp only [List.getElem?_cons_succ] at hx
    simp only [okAll, Bool.and_eq_true] at h
    obtain ⟨h1, h2⟩ := okAll_spec h.2 x o' c' hx
    refine ⟨fun e he hb => by have := h1 e he hb; omega, fun y oj cj hy hl => ?_⟩
    cases y with
    | zero => omega
    | succ y =>
      simp only [List.getElem?_cons_succ] at hl
      have := h2 y oj cj (by omega) hl
      rw [show k + (y + 1) = k + 1 + y by omega, show k + (x + 1) = k + 1 + x by omega]; exact this
theorem apartFrom_spec {t0 : Tr V} {n t : Nat} : ∀ {l : List Cls}, apartFrom t0 n t l = true → ∀ u, Cls.dstore u ∈ l → ∀ b c, blkOf t0 n t = some b → blkOf t0 n u = some c → b ≠ c
  | [], _, _, h, _, _, _, _ => by cases h
  | x :: l, h, u, hu, b, c, hb, hc => by
    rcases List.mem_cons.1 hu with e | e
    · subst e
      simp only [apartFrom, hb, hc, Bool.and_eq_true] at h
      intro e; subst e; simp at h
    · have : apartFrom t0 n t l = true := by
        cases x <;> first | exact h | (simp only [apartFrom, Bool.and_eq_true] at h; exact h.2)
      exact apartFrom_spec this u e b c hb hc
theorem dApart_spec {t0 : Tr V} {n : Nat} {all : List Cls} : ∀ {l : List Cls}, dApart t0 n all l = true → ∀ t, Cls.dload t ∈ l → apartFrom t0 n t all = true
  | [], _, _, h => by cases h
  | x :: l, h, t, ht => by
    rcases List.mem_cons.1 ht with e | e
    · subst e; simp only [dApart, Bool.and_eq_true] at h; exact h.1
    · have : dApart t0 n all l = true := by
        cases x <;> first | exact h | (simp only [dApart, Bool.and_eq_true] at h; exact h.2)
      exact dApart_spec this t e
theorem cls_plain {E : Env} {ops : List Oper} {o : Oper} (t : Nat) : clsOp E false ops o ≠ .dload t ∧ clsOp E false ops o ≠ .dstore t := by
  have hcc : ∀ c : Cls, callCls c ≠ .dload t ∧ callCls c ≠ .dstore t := fun c => by cases c <;> exact ⟨by simp [callCls], by simp [callCls]⟩
  unfold clsOp
  repeat' split
  all_goals first | contradiction | exact hcc _ | exact ⟨by simp, by simp⟩
theorem dap_of {E : Env} {ops : Array Oper} {st : St} {d : Bool} (h : drawCls E ops st = some d) {ci cj : Cls} (hi : ci ∈ clsList E d ops.toList) (hj : cj ∈ clsList E d ops.toList) : DAp st.tmps st.hp.nxt ci cj := by
  unfold drawCls at h
  split at h
  · injection h with h; subst h
    obtain ⟨oi, _, rfl⟩ := List.mem_map.1 hi
    obtain ⟨oj, _, rfl⟩ := List.mem_map.1 hj
    generalize hx : clsOp E false ops.toList oi = x
    generalize hy : clsOp E false ops.toList oj = y
    cases x <;> cases y <;> first | trivial | exact absurd hx (cls_plain _).1 | exact absurd hx (cls_plain _).2
  · split at h <;> try contradiction
    rename_i hc
    injection h with h; subst h
    simp only [Bool.and_eq_true] at hc
    cases ci <;> cases cj <;> first | trivial | skip
    · exact apartFrom_spec (dApart_spec hc.2 _ hi) _ hj
    · exact apartFrom_spec (dApart_spec hc.2 _ hj) _ hi
theorem ok_of {E : Env} {ops : Array Oper} {st : St} {d : Bool} (h : drawCls E ops st = some d) : drawOk E d ops = true := by
  unfold drawCls at h
  split at h
  · injection h with h; subst h; assumption
  · split at h <;> try contradiction
    rename_i hc
    injection h with h; subst h
    simp only [Bool.and_eq_true] at hc
    exact hc.1
/-! ### any order -/
def runL (f : Nat → RS → Option RS) : List Nat → RS → Option RS
  | [], s => some s
  | j :: l, s => (f j s).bind (runL f l)
def Swap (f : Nat → RS → Option RS) (j i : Nat) : Prop := ∀ s r1 r2, f j s = some r1 → f i r1 = some r2 → ∃ r, f i s = some r ∧ f j r = some r2
theorem runL_front {f : Nat → RS → Option RS} {i : Nat} {post : List Nat} : ∀ {pre : List Nat} {s sf : RS}, runL f (pre ++ i :: post) s = some sf → (∀ j ∈ pre, Swap f j i) → ∃ r, f i s = some r ∧ runL f (pre ++ post) r = some sf
  | [], s, sf, h, _ => by
    simp only [List.nil_append, runL] at h
    obtain ⟨r, h1, h2⟩ := Option.bind_eq_some_iff.1 h
    exact ⟨r, h1, h2⟩
  | j :: pre, s, sf, h, hs => by
    simp only [List.cons_append, runL] at h
    obtain ⟨s1, h1, h2⟩ := Option.bind_eq_some_iff.1 h
    obtain ⟨r', h3, h4⟩ := runL_front h2 fun k hk => hs k (by simp [hk])
    obtain ⟨r, h5, h6⟩ := hs j (by simp) s s1 r' h1 h3
    exact ⟨r, h5, by simp only [List.cons_append, runL]; rw [h6]; exact h4⟩
def rem (n : Nat) (listed : Array Bool) : List Nat := (List.range n).filter fun k => !listed.getD k true
theorem mem_rem {n : Nat} {listed : Array Bool} {k : Nat} : k ∈ rem n listed ↔ k < n ∧ listed.getD k true = false := by
  simp [rem]
theorem getD_set {a : Array Bool} {i k : Nat} {b d : Bool} : (a.setIfInBounds i b).getD k d = if i = k ∧ i < a.size then b else a.getD k d := by
  simp only [Array.getD_eq_getD_getElem?, Array.getElem?_setIfInBounds]
  by_cases e : i = k
  · subst e
    by_cases h : i < a.size
    · simp [h]
    · simp [h]
  · simp [e]
theorem rem_split {n : Nat} {listed : Array Bool} {i : Nat} (h : i ∈ rem n listed) : ∃ pre post, rem n listed = pre ++ i :: post ∧ rem n (listed.setIfInBounds i true) = pre ++ post ∧ ∀ j ∈ pre, j < i ∧ j ∈ rem n listed := by
  have hs : (rem n listed).Pairwise (· < ·) := List.pairwise_lt_range.filter _
  obtain ⟨pre, post, e⟩ := List.append_of_mem h
  rw [e, List.pairwise_append] at hs
  obtain ⟨s1, s2, s3⟩ := hs
  refine ⟨pre, post, e, ?_, fun j hj => ⟨s3 j hj i (by simp), by rw [e]; simp [hj]⟩⟩
  have hlt : i < listed.size := by
    have := (mem_rem.1 h).2
    rcases Nat.lt_or_ge i listed.size with h' | h'
    · exact h'
    · simp [Array.getD_eq_getD_getElem?, Array.getElem?_eq_none h'] at this
  have e2 : rem n (listed.setIfInBounds i true) = (rem n listed).filter fun k => decide (k ≠ i) := by
    unfold rem
    rw [List.filter_filter]
    congr 1
    funext k
    rw [getD_set]
    by_cases hk : i = k
    · subst hk; simp [hlt]
    · have : k ≠ i := fun e => hk e.symm
      simp [hk, this]
  rw [e2, e, List.filter_append]
  congr 1
  · rw [List.filter_eq_self]
    intro j hj
    have := s3 j hj i (by simp)
    simp; omega
  · simp only [ne_eq, not_true, decide_false, Bool.false_eq_true, not_false_eq_true, List.filter_cons_of_neg]
    rw [List.filter_eq_self]
    intro j hj
    have := (List.pairwise_cons.1 s2).1 j hj
    simp; omega
def Closed (ops : Array Oper) (listed : Array Bool) : Prop := ∀ k, k < ops.size → listed.getD k true = true → ∀ b, Nat.testBit ((masksOf ops).getD k 0) b = true → listed.getD b false = true
section
variable {P : Program} {ops : Array Oper} {Q : Exit → Act → World → Prop} {f : Nat → RS → Option RS}
theorem draw_any (INV : Array Bool → RS → Act → World → Prop)
    (hback : ∀ i o, ops[i]? = some o → ∀ e ∈ o.after.toList, Region.binds .any e = true → e.on < i)
    (hswap : ∀ i j, j < i → i < ops.size → Nat.testBit ((masksOf ops).getD i 0) j = false → Swap f j i)
    (hstep : ∀ listed rs a w i rs', INV listed rs a w → i < ops.size → listed.getD i true = false → (∀ b, Nat.testBit ((masksOf ops).getD i 0) b = true → listed.getD b false = true) → f i rs = some rs' →
      ∀ K : Act → World → Prop, (∀ a' w', INV (listed.setIfInBounds i true) rs' a' w' → K a' w') → wpOp P ops Q i K a w)
    {rf : RS} (hfin : ∀ listed a w, rem ops.size listed = [] → INV listed rf a w → Q .normal a w) :
    ∀ (fuel : Nat) (listed : Array Bool) (rs : RS) (a : Act) (w : World), listed.size = ops.size → (rem ops.size listed).length ≤ fuel → Closed ops listed → INV listed rs a w → runL f (rem ops.size listed) rs = some rf → wpAny P .any ops Q fuel listed a w := by
  have hready : ∀ listed : Array Bool, listed.size = ops.size → Region.ready .any ops listed = [] → rem ops.size listed = [] := by
    intro listed hsz h
    cases hr : rem ops.size listed with
    | nil => rfl
    | cons j t =>
      exfalso
      have hj : j ∈ rem ops.size listed := by rw [hr]; simp
      have hjr : j ∈ Region.ready .any ops listed := by
        obtain ⟨h1, h2⟩ := mem_rem.1 hj
        refine mem_ready.2 ⟨h2, ops[j], by simp [h1], fun e he hb => ?_⟩
        have hlt := hback j ops[j] (by simp [h1]) e (by simpa using he) hb
        refine Classical.byContradiction fun hne => ?_
        have hsorted : (rem ops.size listed).Pairwise (· < ·) := List.pairwise_lt_range.filter _
        have hmem : e.on ∈ rem ops.size listed := mem_rem.2 ⟨by omega, by
          have : e.on < listed.size := by omega
          simp only [Array.getD_eq_getD_getElem?, this, Array.getElem?_eq_getElem, Option.getD_some] at hne ⊢
          simpa using hne⟩
        rw [hr] at hmem hsorted
        rcases List.mem_cons.1 hmem with e1 | e1
        · omega
        · have := (List.pairwise_cons.1 hsorted).1 _ e1
          omega
      rw [h] at hjr; cases hjr
  intro fuel
  induction fuel with
  | zero =>
    intro listed rs a w hsz hlen hcl hI hrun
    have hnil : rem ops.size listed = [] := List.eq_nil_of_length_eq_zero (by omega)
    rw [hnil] at hrun
    injection hrun with hrun; subst hrun
    refine ⟨?_, hfin listed a w hnil hI⟩
    rw [List.eq_nil_iff_forall_not_mem]
    intro i hi
    obtain ⟨h1, o, h2, _⟩ := mem_ready.1 hi
    have hlt : i < ops.size := by
      rcases Nat.lt_or_ge i ops.size with h' | h'
      · exact h'
      · rw [Array.getElem?_eq_none h'] at h2; cases h2
    have : i ∈ rem ops.size listed := mem_rem.2 ⟨hlt, h1⟩
    rw [hnil] at this; cases this
  | succ fuel ih =>
    intro listed rs a w hsz hlen hcl hI hrun
    refine ⟨fun h => ?_, fun i hi => ?_⟩
    · have hnil := hready listed hsz h
      rw [hnil] at hrun
      injection hrun with hrun; subst hrun
      exact hfin listed a w hnil hI
    · obtain ⟨h1, o, h2, h3⟩ := mem_ready.1 hi
      have hlt : i < ops.size := by
        rcases Nat.lt_or_ge i ops.size with h' | h'
        · exact h'
        · rw [Array.getElem?_eq_none h'] at h2; cases h2
      have him : i ∈ rem ops.size listed := mem_rem.2 ⟨hlt, h1⟩
      obtain ⟨pre, post, e1, e2, e3⟩ := rem_split him
      have hbits : ∀ b, Nat.testBit ((masksOf ops).getD i 0) b = true → listed.getD b false = true := by
        intro b hb
        obtain ⟨e, g1, g2, g3⟩ := masksOf_bits h2 hb
        have hon := h3 e (by simpa using g1) g2
        rcases g3 with g3 | ⟨g3, g4⟩
        · rw [← g3]; exact hon
        · have hon' : listed.getD e.on true = true := by
            have : e.on < listed.size := by omega
            simp only [Array.getD_eq_getD_getElem?, this, Array.getElem?_eq_getElem, Option.getD_some] at hon ⊢
            exact hon
          exact hcl e.on (by omega) hon' b g4
      rw [e1] at hrun
      obtain ⟨rs', g1, g2⟩ := runL_front hrun fun j hj => by
        obtain ⟨q1, q2⟩ := e3 j hj
        refine hswap i j q1 hlt ?_
        cases hb : Nat.testBit ((masksOf ops).getD i 0) j
        · rfl
        · have h5 := hbits j hb
          have h6 := (mem_rem.1 q2).2
          have hj2 : j < listed.size := by omega
          simp only [Array.getD_eq_getD_getElem?, hj2, Array.getElem?_eq_getElem, Option.getD_some] at h5 h6
          rw [h5] at h6; cases h6
      refine hstep listed rs a w i rs' hI hlt h1 hbits g1 _ fun a' w' hI' => ?_
      refine ih (listed.setIfInBounds i true) rs' a' w' (by simpa using hsz) ?_ ?_ hI' (by rw [e2]; exact g2)
      · rw [e1] at hlen
        rw [e2]
        simp at hlen ⊢
        omega
      · intro k hk hl b hb
        rw [getD_set]
        split
        · rfl
        · rename_i hne
          rw [getD_set] at hl
          by_cases hki : i = k
          · subst hki; exact hbits b hb
          · rw [if_neg fun h => hki h.1] at hl
            exact hcl k hk hl b hb
end
end Go.Ev
