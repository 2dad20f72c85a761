/- Own text: the evaluator: EvDr1, EvDr2, EvDr3, EvDr4, EvDr5, EvDr6. -/
import Derived.Test.YtlmacdfbdhpljaaGreatDoorEvC
import Derived.Orders
/- Own text: operations of a region whose order is open: two that change places. -/
namespace Go.Ev
/-! ### the map -/
theorem beq0 (k : Nat) : Nat.beq k 0 = decide (k = 0) := by cases k <;> rfl
theorem beq1 (k : Nat) : Nat.beq (k % 2) 1 = decide (k % 2 = 1) := by
  have : k % 2 = 0 ∨ k % 2 = 1 := by omega
  rcases this with h | h <;> rw [h] <;> rfl
theorem Tr.upd_fuel {α : Type} (x : Option α) : ∀ (f g : Nat) (t : Tr α) (n : Nat), n < f → n < g → Tr.upd x f t n = Tr.upd x g t n := by
  intro f
  induction f with
  | zero => intro g t n h; omega
  | succ f ih =>
    intro g t n h1 h2
    cases g with
    | zero => omega
    | succ g =>
      by_cases h0 : n = 0
      · subst h0; cases t <;> rfl
      · have e1 : n / 2 < f := by omega
        have e2 : n / 2 < g := by omega
        have e3 : n / 2 - 1 < f := by omega
        have e4 : n / 2 - 1 < g := by omega
        cases t <;> simp only [Tr.upd, beq0, beq1, h0, decide_false] <;> (by_cases hp : n % 2 = 1 <;> simp only [hp, decide_true, decide_false, ih g _ _ e1 e2, ih g _ _ e3 e4])
theorem Tr.upd_comm {α : Type} (x y : Option α) : ∀ (f : Nat) (t : Tr α) (n m : Nat), n ≠ m → n < f → m < f → Tr.upd y f (Tr.upd x f t n) m = Tr.upd x f (Tr.upd y f t m) n := by
  intro f
  induction f with
  | zero => intro t n m _ h; omega
  | succ f ih =>
    intro t n m hne hn hm
    by_cases h0 : n = 0
    · subst h0
      have hm0 : ¬ m = 0 := fun e => hne e.symm
      cases t <;> simp only [Tr.upd, beq0, beq1, hm0, decide_false] <;> (by_cases hp : m % 2 = 1 <;> simp only [hp, decide_true, decide_false, Tr.upd])
    · by_cases k0 : m = 0
      · subst k0
        cases t <;> simp only [Tr.upd, beq0, beq1, h0, decide_false] <;> (by_cases hp : n % 2 = 1 <;> simp only [hp, decide_true, decide_false, Tr.upd])
      · by_cases hp : n % 2 = 1 <;> by_cases kp : m % 2 = 1
        · have e := fun t => ih t (n / 2) (m / 2) (by omega) (by omega) (by omega)
          cases t <;> simp only [Tr.upd, beq0, h0, k0, hp, kp, decide_false, e]
        · cases t <;> simp only [Tr.upd, beq0, beq1, h0, k0, hp, kp, decide_false]
        · cases t <;> simp only [Tr.upd, beq0, beq1, h0, k0, hp, kp, decide_false]
        · have e := fun t => ih t (n / 2 - 1) (m / 2 - 1) (by omega) (by omega) (by omega)
          cases t <;> simp only [Tr.upd, beq0, beq1, h0, k0, hp, kp, decide_false, e]
theorem Tr.set_comm {α : Type} (t : Tr α) {n m : Nat} (h : n ≠ m) (x y : Option α) : (t.set n x).set m y = (t.set m y).set n x := by
  unfold Tr.set
  have a1 : ∀ t, Tr.upd x (n + 1) t n = Tr.upd x (n + m + 1) t n := fun t => Tr.upd_fuel x _ _ t n (by omega) (by omega)
  have a2 : ∀ t, Tr.upd y (m + 1) t m = Tr.upd y (n + m + 1) t m := fun t => Tr.upd_fuel y _ _ t m (by omega) (by omega)
  rw [a1, a2, a2, a1, Tr.upd_comm x y _ t n m h (by omega) (by omega)]
/-! ### an operation looks at its temporaries alone -/
def TEq (ts : List Tmp) (t t' : Tr V) : Prop := ∀ d ∈ ts, t.get d = t'.get d
section
variable {E : Env} {ro : RO} {tmps tmps' : Tr V} {hp : Hp} {ops : Array Oper}
theorem opV_congr {G : Nat} {x : Operand} (h : ∀ t, x = .tmp t → tmps.get t = tmps'.get t) : opV G tmps x = opV G tmps' x := by
  cases x with
  | tmp t => simp only [opV, tmpV, h t rfl]
  | _ => rfl
theorem opVs_congr {G : Nat} : ∀ {l : List Operand}, (∀ x ∈ l, opV G tmps x = opV G tmps' x) → opVs G tmps l = opVs G tmps' l
  | [], _ => rfl
  | x :: l, h => by
    unfold opVs
    rw [h x (by simp), opVs_congr fun y hy => h y (by simp [hy])]
theorem partsV_congr {G : Nat} : ∀ {l : List (Nat × Operand)}, (∀ p ∈ l, opV G tmps p.2 = opV G tmps' p.2) → partsV G tmps l = partsV G tmps' l
  | [], _ => rfl
  | (i, x) :: l, h => by
    unfold partsV
    rw [h (i, x) (by simp), partsV_congr fun y hy => h y (by simp [hy])]
theorem evOp_congr' {ti : Nat → Option TI} {G : Nat} (o : Oper) (h : ∀ x ∈ o.op.operands, opV G tmps x = opV G tmps' x) : evOp ti G ro tmps hp o = evOp ti G ro tmps' hp o := by
  obtain ⟨dst, op, ty, pos, after, guard⟩ := o
  cases op <;> simp only [Op.operands] at h <;> simp only [evOp]
  case move x => simp only [ev1, h x (by simp)]
  case assign x => simp only [ev1, h x (by simp)]
  case pick c x y => simp only [evPick, h c (by simp), h x (by simp), h y (by simp)]
  case box e x => simp only [evBox, h x (by simp)]
  case build t ps => simp only [evBuild]; rw [partsV_congr (tmps' := tmps') fun p hp => h p.2 (by simpa using ⟨p.1, by simpa using hp⟩)]
  case buildSlice t n ps => simp only [evBuildSlice]; rw [partsV_congr (tmps' := tmps') fun p hp => h p.2 (by simpa using ⟨p.1, by simpa using hp⟩)]
  case load t x => simp only [evLoad, h x (by simp)]
  case store t x y => simp only [evStore, h x (by simp), h y (by simp)]
  case nilCheck x => simp only [h x (by simp)]
  case binOp op t x y z => simp only [ev2, h x (by simp), h y (by simp)]
  case unOp op t x => simp only [ev1, h x (by simp)]
  case convert s d x => simp only [evConv, ev1, ev1T, h x (by simp)]
  case makeInterface t x => simp only [ev1, h x (by simp)]
  case makeFunc fn first cap => simp only [evFunc]; rw [opVs_congr (l := first.toList) (tmps' := tmps') fun x hx => h x (by simp at hx ⊢; exact .inl hx), opVs_congr (l := cap.toList) (tmps' := tmps') fun x hx => h x (by simp at hx ⊢; exact .inr hx)]
  case makeSlice t l c => simp only [evMake, h l (by simp), h c (by simp)]
  case slice t x lo hi mx =>
    have ho : ∀ o : Option Operand, (∀ y, o = some y → opV G tmps y = opV G tmps' y) → optI G tmps o = optI G tmps' o := fun o ho => by cases o with
      | none => rfl
      | some y => simp only [optI, ho y rfl]
    have hx := h x (by simp)
    have hlo := ho lo fun y hy => h y (by simp [hy])
    have hhi := ho hi fun y hy => h y (by simp [hy])
    simp only [evSlice, hx, hlo, hhi]
  case fieldAddr s x f => simp only [ev1, h x (by simp)]
  case field t x f => simp only [ev1, h x (by simp)]
  case indexAddr t x i => simp only [ev2, h x (by simp), h i (by simp)]
  case index t x i => simp only [ev2, h x (by simp), h i (by simp)]
  case extract x i => simp only [evExtract, h x (by simp)]
  case call c =>
    have ha : opVs G tmps c.args.toList = opVs G tmps' c.args.toList := opVs_congr fun x hx => h x (by simp [Call.operands] at hx ⊢; exact .inr hx)
    unfold evCall
    cases hc : c.callee with
    | value f => simp only [evCallV, ha, h f (by simp [Call.operands, hc])]
    | builtin b => simp only [ha]
    | invoke r m => rfl
  case defer c =>
    have ha : opVs G tmps c.args.toList = opVs G tmps' c.args.toList := opVs_congr fun x hx => h x (by simp [Call.operands] at hx ⊢; exact .inr hx)
    unfold evDefer
    cases hc : c.callee with
    | value f => simp only [ha, h f (by simp [Call.operands, hc])]
    | _ => rfl
  case lookup t x i ok => simp only [evLookup, h x (by simp), h i (by simp)]
  case mapUpdate t m k v => simp only [evUpdate, h m (by simp), h k (by simp), h v (by simp)]
  case insert t m k v => simp only [evUpdate, h m (by simp), h k (by simp), h v (by simp)]
  case range t x => simp only [evRange, h x (by simp)]
  case next x s => cases s <;> simp only [evNext, h x (by simp)]
  case typeAssert x t t' ok => simp only [ev1, h x (by simp)]
  case panic x => simp only [evPanic, h x (by simp)]
theorem evOp_congr {ti : Nat → Option TI} {G : Nat} {o : Oper} (h : ∀ d ∈ o.looksAt ops, tmps.get d = tmps'.get d) : evOp ti G ro tmps hp o = evOp ti G ro tmps' hp o :=
  evOp_congr' o fun x hx => opV_congr fun t e => h t (by
    subst e
    exact List.mem_append_left _ (List.mem_filterMap.2 ⟨.tmp t, by simpa using hx, rfl⟩))
theorem opV_looks {G : Nat} {o : Oper} {x : Operand} (h : ∀ d ∈ o.looksAt ops, tmps.get d = tmps'.get d) (hx : x ∈ o.op.operands) : opV G tmps x = opV G tmps' x :=
  opV_congr fun t e => h t (by
    subst e
    exact List.mem_append_left _ (List.mem_filterMap.2 ⟨.tmp t, by simpa using hx, rfl⟩))
theorem guardD_congr {nt : Nat} {o : Oper} (h : ∀ d ∈ o.looksAt ops, tmps.get d = tmps'.get d) : guardD nt ops.toList tmps o = guardD nt ops.toList tmps' o := by
  unfold guardD
  split <;> try rfl
  unfold guardV
  cases hg : o.guard with
  | none => rfl
  | some jw =>
    obtain ⟨j, want⟩ := jw
    simp only
    split <;> try rfl
    rename_i oj hoj
    split <;> try rfl
    rename_i d hd
    unfold tmpBool
    rw [h d]
    have hoj' : ops[j]? = some oj := by simpa using hoj
    exact List.mem_append_right _ (by simp [hg, hoj', hd])
end
/-! ### the side blocks -/
theorem findSs_set {x : Option Side} {mask id : Nat} : ∀ (l : List (Option Side)) (i k : Nat), Nat.testBit mask (i + k) = false → findSs (l.set k x) i mask id = findSs l i mask id
  | [], _, _, _ => rfl
  | s :: l, i, 0, h => by
    simp only [Nat.add_zero] at h
    simp only [List.set_cons_zero, findSs, h]
  | s :: l, i, k + 1, h => by
    have ih := findSs_set (x := x) (mask := mask) (id := id) l (i + 1) k (by rw [show i + 1 + k = i + (k + 1) by omega]; exact h)
    simp only [List.set_cons_succ, findSs, ih]
theorem addSs_set {x : Option Side} {mask : Nat} : ∀ (l : List (Option Side)) (m : Tr Blk) (i k : Nat), Nat.testBit mask (i + k) = false → addSs m (l.set k x) i mask = addSs m l i mask
  | [], _, _, _, _ => rfl
  | s :: l, m, i, 0, h => by
    simp only [Nat.add_zero] at h
    simp only [List.set_cons_zero, addSs, h]
  | s :: l, m, i, k + 1, h => by
    have ih := fun m => addSs_set (x := x) (mask := mask) l m (i + 1) k (by rw [show i + 1 + k = i + (k + 1) by omega]; exact h)
    simp only [List.set_cons_succ, addSs, ih]
theorem clearS_set {x : Option Side} {mask : Nat} : ∀ (l : List (Option Side)) (i k : Nat), Nat.testBit mask (i + k) = false → clearS (l.set k x) i mask = (clearS l i mask).set k x
  | [], _, _, _ => rfl
  | s :: l, i, 0, h => by
    simp only [Nat.add_zero] at h
    simp only [List.set_cons_zero, clearS, h]
  | s :: l, i, k + 1, h => by
    have ih := clearS_set (x := x) (mask := mask) l (i + 1) k (by rw [show i + 1 + k = i + (k + 1) by omega]; exact h)
    simp only [List.set_cons_succ, clearS, ih]
theorem clearS_zero : ∀ (l : List (Option Side)) (i : Nat), clearS l i 0 = l
  | [], _ => rfl
  | s :: l, i => by simp only [clearS, Nat.zero_testBit, clearS_zero l (i + 1)]
theorem setT_get {tmps : Tr V} {dst : Option Tmp} {v : V} {d : Tmp} (h : dst ≠ some d) : (setT tmps dst v).get d = tmps.get d := by
  cases dst with
  | none => rfl
  | some e =>
    simp only [setT, Tr.get_set]
    rw [if_neg fun he => h (by rw [he])]
theorem setT_comm {tmps : Tr V} {x y : Option Tmp} {u v : V} (h : ∀ d, x = some d → y ≠ some d) : setT (setT tmps x u) y v = setT (setT tmps y v) x u := by
  cases x with
  | none => rfl
  | some d =>
    cases y with
    | none => rfl
    | some e => exact Tr.set_comm _ (fun he => h d rfl (by rw [he])) _ _
theorem loadV_congr {ti : Nat → Option TI} {h h' : Nat → Option Blk} {ty : TypeId} {x : V} {b : Nat} (hx : ptrIs x b = true) (hb : h b = h' b) : loadV ti h ty x = loadV ti h' ty x := by
  unfold ptrIs at hx
  split at hx <;> try (cases hx; done)
  · have e := Nat.eq_of_beq_eq_true hx
    subst e
    simp only [loadV, hb]
  · rename_i d
    cases d <;> rfl
theorem storeV_at {ti : Nat → Option TI} {hp hp' : Hp} {ty : TypeId} {x y : V} {b : Nat} (hx : ptrIs x b = true) (h : (storeV ti hp ty x y).run = some hp') : ∃ blk, hp' = hp.put b (some blk) := by
  unfold ptrIs at hx
  split at hx <;> try (cases hx; done)
  rotate_left
  · cases h
  have e := Nat.eq_of_beq_eq_true hx
  subst e
  unfold storeV at h
  simp only at h
  split at h <;> try (cases h; done)
  split at h <;> try (cases h; done)
  split at h <;> try (cases h; done)
  split at h <;> try (cases h; done)
  obtain ⟨blk, _, h2⟩ := T.run_bind_some h
  injection h2 with h2
  exact ⟨blk, h2.symm⟩
end Go.Ev

/- Own text: operations of a region whose order is open: any order ends as the written one does. -/
namespace Go.Ev
/-- What an operation of a class may do. -/
def EffOf (t0 : Tr V) (b0 mask : Nat) (rs : RS) (e : Eff) : Cls → Prop
  | .pure => e = .keep ∨ ∃ l, e = .side l
  | .new => e = .keep ∨ ∃ l, e = .side l
  | .read => e = .keep
  | .dload _ => e = .keep
  | .hload _ => e = .keep
  | .heff H => e = .keep ∨ ∃ hp, e = .heap hp mask ∧ ∀ b, memN b H = true → hp.m.get b = rs.hp.m.get b
  | .eff => e = .keep ∨ ∃ hp, e = .heap hp mask
  | .dstore t => e = .keep ∨ ∃ b blk, blkOf t0 b0 t = some b ∧ e = .heap (rs.hp.put b (some blk)) 0
/-- What is loaded and what is stored by itself lies apart. -/
def DAp (t0 : Tr V) (b0 : Nat) : Cls → Cls → Prop
  | .dload t, .dstore u => ∀ b c, blkOf t0 b0 t = some b → blkOf t0 b0 u = some c → b ≠ c
  | .dstore u, .dload t => ∀ b c, blkOf t0 b0 t = some b → blkOf t0 b0 u = some c → b ≠ c
  | _, _ => True
section
variable {E : Env} {ro : RO} {call : CallF} {nt : Nat} {ops : Array Oper} {t0 : Tr V} {b0 stride : Nat}
theorem T.run_bind_of {α β : Type} {t : T α} {f : α → T β} {a : α} (h : t.run = some a) : (t.bind f).run = (f a).run := by rw [T.run_bind, h]; rfl
theorem outR_some {view : RO} {own : Hp} {f : V → Hp → T (V × Eff)} {r : Res} {q : V × Eff} (h : (outR call view own f r).run = some q) : ∃ v hp, (f v hp).run = some q := by
  unfold outR at h
  split at h
  · exact ⟨_, _, h⟩
  · exact ⟨_, _, h⟩
  · obtain ⟨p, _, h2⟩ := T.run_bind_some h
    unfold outC at h2
    split at h2
    · exact ⟨_, _, h2⟩
    · cases h2
  · cases h
theorem newC_eff {base lim : Nat} {v : V} {hp : Hp} {q : V × Eff} (h : (newC base lim v hp).run = some q) : q.2 = .keep ∨ ∃ l, q.2 = .side l := by
  unfold newC at h
  split at h
  · injection h with h; subst h; exact .inl rfl
  · split at h <;> try (cases h; done)
    split at h <;> try (cases h; done)
    injection h with h; subst h; exact .inr ⟨_, rfl⟩
theorem backB_get {m0 m : Tr Blk} {b : Nat} : ∀ {H : List Nat}, (backB m0 m H).get b = if memN b H then m0.get b else m.get b
  | [] => by simp [backB, memN]
  | a :: r => by
    simp only [backB, Tr.get_set]
    by_cases e : b = a
    · subst e
      have hm : memN b (b :: r) = true := by simp [memN]
      rw [if_pos rfl, if_pos hm]
    · have : Nat.beq a b = false := by
        cases h : Nat.beq a b with
        | false => rfl
        | true => exact absurd (Nat.eq_of_beq_eq_true h).symm e
      have hm : memN b (a :: r) = memN b r := by simp only [memN, this, Bool.false_or]
      rw [if_neg e, hm]; exact backB_get
theorem hideB_get {m : Tr Blk} {b : Nat} : ∀ {H : List Nat}, (hideB m H).get b = if memN b H then none else m.get b
  | [] => by simp [hideB, memN]
  | a :: r => by
    simp only [hideB, Tr.get_set]
    by_cases e : b = a
    · subst e
      have hm : memN b (b :: r) = true := by simp [memN]
      rw [if_pos rfl, if_pos hm]
    · have : Nat.beq a b = false := by
        cases h : Nat.beq a b with
        | false => rfl
        | true => exact absurd (Nat.eq_of_beq_eq_true h).symm e
      have hm : memN b (a :: r) = memN b r := by simp only [memN, this, Bool.false_or]
      rw [if_neg e, hm]; exact hideB_get
theorem compG_eff {j : Nat} {o : Oper} {mask : Nat} {c : Cls} {rs : RS} {q : V × Eff} (h : (compG E ro call nt ops.toList t0 b0 stride j o mask c rs).run = some q) : EffOf t0 b0 mask rs q.2 c := by
  unfold compG at h
  split at h
  · cases h
  · injection h with h; subst h
    cases c <;> first | exact rfl | exact .inl rfl
  · obtain ⟨p, h1, h2⟩ := T.run_bind_some h
    obtain ⟨v, _, h4⟩ := T.run_bind_some h2
    injection h4 with h4; subst h4
    show EffOf t0 b0 mask rs p.2 c
    cases c <;> simp only [compC] at h1
    case pure =>
      obtain ⟨r, _, h5⟩ := T.run_bind_some h1
      obtain ⟨v, hp, h6⟩ := outR_some h5
      exact newC_eff h6
    case new =>
      obtain ⟨r, _, h5⟩ := T.run_bind_some h1
      obtain ⟨v, hp, h6⟩ := outR_some h5
      exact newC_eff h6
    case read =>
      obtain ⟨r, _, h5⟩ := T.run_bind_some h1
      obtain ⟨v, hp, h6⟩ := outR_some h5
      unfold readC at h6
      split at h6 <;> try (cases h6; done)
      injection h6 with h6; subst h6; exact rfl
    case eff =>
      obtain ⟨r, _, h5⟩ := T.run_bind_some h1
      obtain ⟨v, hp, h6⟩ := outR_some h5
      injection h6 with h6; subst h6; exact .inr ⟨_, rfl⟩
    case heff H =>
      obtain ⟨r, _, h5⟩ := T.run_bind_some h1
      obtain ⟨v, hp, h6⟩ := outR_some h5
      injection h6 with h6; subst h6; exact .inr ⟨_, rfl, fun b hb => by show (backB _ _ _).get b = _; rw [backB_get, if_pos hb]⟩
    case hload b =>
      split at h1 <;> try (cases h1; done)
      unfold dloadC at h1
      split at h1 <;> try (cases h1; done)
      split at h1 <;> try (cases h1; done)
      split at h1 <;> try (cases h1; done)
      obtain ⟨r, _, h5⟩ := T.run_bind_some h1
      injection h5 with h5; subst h5; exact rfl
    case dload t =>
      split at h1 <;> try (cases h1; done)
      unfold dloadC at h1
      split at h1 <;> try (cases h1; done)
      split at h1 <;> try (cases h1; done)
      split at h1 <;> try (cases h1; done)
      obtain ⟨r, _, h5⟩ := T.run_bind_some h1
      injection h5 with h5; subst h5; exact rfl
    case dstore t =>
      split at h1 <;> try (cases h1; done)
      rename_i b hb
      unfold dstoreC at h1
      split at h1 <;> try (cases h1; done)
      split at h1 <;> try (cases h1; done)
      split at h1 <;> try (cases h1; done)
      rename_i hx
      split at h1 <;> try (cases h1; done)
      obtain ⟨r, h7, h5⟩ := T.run_bind_some h1
      injection h5 with h5; subst h5
      obtain ⟨blk, rfl⟩ := storeV_at hx h7
      exact .inr ⟨b, blk, hb, rfl⟩
theorem applyE_tmps {j : Nat} {o : Oper} {rs : RS} {v : V} {e : Eff} : (applyE j o rs v e).tmps = setT rs.tmps o.dst v := by cases e <;> rfl
/-- Another operation does not change what this one reckons. -/
theorem compG_indep {i j : Nat} {oi oj : Oper} {mi mj : Nat} {ci cj : Cls} {rs : RS} {v : V} {e : Eff} (he : EffOf t0 b0 mi rs e ci) (hc : compat ci cj = true) (hd : DAp t0 b0 ci cj) (hl : ∀ d, oi.dst = some d → d ∉ oj.looksAt ops) (hm : Nat.testBit mj i = false) :
    compG E ro call nt ops.toList t0 b0 stride j oj mj cj (applyE i oi rs v e) = compG E ro call nt ops.toList t0 b0 stride j oj mj cj rs := by
  have hT : ∀ d ∈ oj.looksAt ops, (applyE i oi rs v e).tmps.get d = rs.tmps.get d := fun d hd' => by
    rw [applyE_tmps, setT_get fun h => hl d h hd']
  have hevop : ∀ (view : RO) (own : Hp) f, compOp E call view own f (applyE i oi rs v e).tmps oj = compOp E call view own f rs.tmps oj := fun view own f => by
    unfold compOp; rw [evOp_congr hT]
  unfold compG
  rw [guardD_congr hT]
  split <;> try rfl
  congr 1
  have hm0 : Nat.testBit mj (0 + i) = false := by rw [Nat.zero_add]; exact hm
  have light : (e = .keep ∨ ∃ l, e = .side l) → (applyE i oi rs v e).hp = rs.hp ∧ viewS ro (applyE i oi rs v e) mj = viewS ro rs mj ∧ addSs rs.hp.m (applyE i oi rs v e).side 0 mj = addSs rs.hp.m rs.side 0 mj := by
    intro h
    rcases h with rfl | ⟨l, rfl⟩
    · exact ⟨rfl, rfl, rfl⟩
    · refine ⟨rfl, ?_, addSs_set _ _ _ _ hm0⟩
      funext id
      simp only [viewS, applyE, findSs_set _ _ _ hm0]
  cases cj <;> simp only [compC]
  case pure => exact hevop _ _ _
  case new =>
    have hk : e = .keep ∨ ∃ l, e = .side l := by
      cases ci <;> simp only [EffOf] at he <;> first | exact he | exact .inl he | (cases hc; done)
    obtain ⟨_, h2, _⟩ := light hk
    rw [h2]; exact hevop _ _ _
  case read =>
    have hk : e = .keep ∨ ∃ l, e = .side l := by
      cases ci <;> simp only [EffOf] at he <;> first | exact he | exact .inl he | (cases hc; done)
    obtain ⟨h1, h2, _⟩ := light hk
    rw [h1, h2]; exact hevop _ _ _
  case eff =>
    have hk : e = .keep ∨ ∃ l, e = .side l := by
      cases ci <;> simp only [EffOf] at he <;> first | exact he | exact .inl he | (cases hc; done)
    obtain ⟨h1, _, h3⟩ := light hk
    rw [h1, h3]; exact hevop _ _ _
  case heff H =>
    have hk : e = .keep ∨ ∃ l, e = .side l := by
      cases ci <;> simp only [EffOf] at he <;> first | exact he | exact .inl he | (cases hc; done)
    obtain ⟨h1, _, h3⟩ := light hk
    rw [h1, h3]; exact hevop _ _ _
  case hload b =>
    split <;> try rfl
    rename_i hlt
    have hheap : (applyE i oi rs v e).hp.at ro b = rs.hp.at ro b := by
      cases ci <;> simp only [EffOf] at he
      case pure => rw [(light he).1]
      case new => rw [(light he).1]
      case read => rw [(light (.inl he)).1]
      case dload => rw [(light (.inl he)).1]
      case hload => rw [(light (.inl he)).1]
      case eff => cases hc
      case dstore => cases hc
      case heff H =>
        rcases he with he | ⟨hp, rfl, hh⟩
        · rw [(light (.inl he)).1]
        · have hg := hh b hc
          simp only [applyE, Hp.at, hg]
    unfold dloadC
    split <;> try rfl
    rename_i ty a hop
    rw [opV_looks (G := E.G) hT (x := a) (by rw [hop]; simp [Op.operands])]
    split <;> try rfl
    split <;> try rfl
    rename_i hx
    rw [loadV_congr hx hheap]
  case dload t =>
    split <;> try rfl
    rename_i b hb
    have hheap : (applyE i oi rs v e).hp.at ro b = rs.hp.at ro b := by
      cases ci <;> simp only [EffOf] at he
      case pure => rw [(light he).1]
      case new => rw [(light he).1]
      case read => rw [(light (.inl he)).1]
      case dload => rw [(light (.inl he)).1]
      case hload => rw [(light (.inl he)).1]
      case heff => cases hc
      case eff => cases hc
      case dstore u =>
        rcases he with he | ⟨c, blk, hb', rfl⟩
        · rw [(light (.inl he)).1]
        · have hne : b ≠ c := hd b c hb hb'
          simp only [applyE, Hp.at, Hp.put, Tr.get_set, if_neg hne]
    unfold dloadC
    split <;> try rfl
    rename_i ty a hop
    rw [opV_looks (G := E.G) hT (x := a) (by rw [hop]; simp [Op.operands])]
    split <;> try rfl
    split <;> try rfl
    rename_i hx
    rw [loadV_congr hx hheap]
  case dstore t =>
    have hk : e = .keep ∨ ∃ l, e = .side l := by
      cases ci <;> simp only [EffOf] at he <;> first | exact he | exact .inl he | (cases hc; done)
    obtain ⟨h1, _, _⟩ := light hk
    rw [h1]
    split <;> try rfl
    unfold dstoreC
    split <;> try rfl
    rename_i ty a y hop
    rw [opV_looks (G := E.G) hT (x := a) (by rw [hop]; simp [Op.operands]), opV_looks (G := E.G) hT (x := y) (by rw [hop]; simp [Op.operands])]
theorem compat_symm {a b : Cls} (h : compat a b = true) : compat b a = true := by
  cases a <;> cases b <;> first | exact h | rfl
theorem DAp.symm {a b : Cls} (h : DAp t0 b0 a b) : DAp t0 b0 b a := by
  cases a <;> cases b <;> first | exact h | trivial
theorem eff_mask {mask k : Nat} {rs : RS} {c : Cls} {hp : Hp} {m : Nat} (h : EffOf t0 b0 mask rs (.heap hp m) c) (hk : Nat.testBit mask k = false) : Nat.testBit m k = false := by
  cases c <;> simp [EffOf] at h
  all_goals first | (rw [h]; exact hk) | (obtain ⟨rfl, _⟩ := h; exact hk) | (obtain ⟨_, _, _, _, rfl⟩ := h; simp) | (obtain ⟨_, ⟨_, rfl⟩, _⟩ := h; exact hk)
/-- Two change places. -/
theorem stepO_swap {i j : Nat} {oi oj : Oper} {mi mj : Nat} {ci cj : Cls} {rs r1 r2 : RS} (hne : i ≠ j) (hc : compat cj ci = true) (hd : DAp t0 b0 cj ci) (hap : oj.apart ops oi = true) (hmi : Nat.testBit mi j = false) (hmj : Nat.testBit mj i = false)
    (h1 : (stepO E ro call nt ops.toList t0 b0 stride j oj mj cj rs).run = some r1) (h2 : (stepO E ro call nt ops.toList t0 b0 stride i oi mi ci r1).run = some r2) :
    ∃ r, (stepO E ro call nt ops.toList t0 b0 stride i oi mi ci rs).run = some r ∧ (stepO E ro call nt ops.toList t0 b0 stride j oj mj cj r).run = some r2 := by
  obtain ⟨a1, a2, a3⟩ := Oper.apart_spec hap
  obtain ⟨⟨vj, ej⟩, g1, g2⟩ := T.run_bind_some h1
  injection g2 with g2; subst g2
  obtain ⟨⟨vi, ei⟩, g3, g4⟩ := T.run_bind_some h2
  injection g4 with g4; subst g4
  have hej := compG_eff g1
  rw [compG_indep hej hc hd a1 hmi] at g3
  have hei := compG_eff g3
  refine ⟨applyE i oi rs vi ei, ?_, ?_⟩
  · unfold stepO; rw [T.run_bind_of g3]; rfl
  · unfold stepO
    rw [compG_indep hei (compat_symm hc) hd.symm a3 hmj, T.run_bind_of g1]
    simp only [T.run, Option.some.injEq]
    have hm0 : Nat.testBit mj (0 + i) = false := by rw [Nat.zero_add]; exact hmj
    have hm1 : Nat.testBit mi (0 + j) = false := by rw [Nat.zero_add]; exact hmi
    have hset := setT_comm (tmps := rs.tmps) (u := vj) (v := vi) a2
    cases ej <;> cases ei <;> simp only [applyE, hset]
    · rw [List.set_comm _ _ hne]
    · rw [clearS_set _ _ _ (eff_mask hei hm1)]
    · rw [clearS_set _ _ _ (eff_mask hej hm0)]
    · exfalso
      cases cj <;> cases ci <;> simp [EffOf, compat, isEff, reads] at hej hei hc
end
end Go.Ev

/- Own text: operations of a region whose order is open: what order may come, and that the written one serves all. -/
namespace Go.Ev
/-! ### masks -/
theorem foldl_or_bits {α : Type} (g : α → Nat) : ∀ (l : List α) (s b : Nat), Nat.testBit (l.foldl (fun s e => s ||| g e) s) b = true → Nat.testBit s b = true ∨ ∃ e ∈ l, Nat.testBit (g e) b = true
  | [], _, _, h => .inl h
  | e :: l, s, b, h => by
    rcases foldl_or_bits g l _ b h with h1 | ⟨e', h1, h2⟩
    · rw [Nat.testBit_or, Bool.or_eq_true] at h1
      rcases h1 with h1 | h1
      · exact .inl h1
      · exact .inr ⟨e, by simp, h1⟩
    · exact .inr ⟨e', by simp [h1], h2⟩
/-- What one operation waits for, if 'm' tells it for those before. -/
def waits (m : Nat → Nat) (o : Oper) : Nat := o.after.toList.foldl (fun s e => match Region.binds .any e with
  | true => s ||| 2 ^ e.on ||| m e.on
  | false => s) 0
theorem waits_bits {m : Nat → Nat} {o : Oper} {b : Nat} (h : Nat.testBit (waits m o) b = true) : ∃ e ∈ o.after.toList, Region.binds .any e = true ∧ (e.on = b ∨ Nat.testBit (m e.on) b = true) := by
  have e1 : waits m o = o.after.toList.foldl (fun s e => s ||| (match Region.binds .any e with
    | true => 2 ^ e.on ||| m e.on
    | false => 0)) 0 := by
    unfold waits
    congr 1
    funext s e
    cases Region.binds .any e
    · simp
    · simp [Nat.or_assoc]
  rw [e1] at h
  rcases foldl_or_bits _ _ _ _ h with h1 | ⟨e, h1, h2⟩
  · simp at h1
  · refine ⟨e, h1, ?_⟩
    cases hb : Region.binds .any e
    · rw [hb] at h2; simp at h2
    · rw [hb] at h2
      simp only [Nat.testBit_or, Bool.or_eq_true] at h2
      refine ⟨rfl, ?_⟩
      rcases h2 with h2 | h2
      · rw [Nat.testBit_two_pow] at h2; exact .inl (of_decide_eq_true h2)
      · exact .inr h2
theorem bef_eq (ops : List Oper) : ∀ (rest : List Oper) (acc : List Nat), ∃ tl, bef ops acc rest = acc.reverse ++ tl ∧ tl.length = rest.length ∧
    ∀ k o, rest[k]? = some o → tl[k]? = some (waits (fun x => (acc.reverse ++ tl.take k).getD x 0) o)
  | [], acc => ⟨[], by simp [bef], rfl, fun k o h => by simp at h⟩
  | o :: rest, acc => by
    obtain ⟨tl, h1, h2, h3⟩ := bef_eq ops rest (waits (fun x => acc.reverse.getD x 0) o :: acc)
    refine ⟨waits (fun x => acc.reverse.getD x 0) o :: tl, ?_, by simp [h2], fun k o' hk => ?_⟩
    · have : bef ops acc (o :: rest) = bef ops (waits (fun x => acc.reverse.getD x 0) o :: acc) rest := rfl
      rw [this, h1]; simp
    · cases k with
      | zero =>
        simp only [List.getElem?_cons_zero, Option.some.injEq] at hk; subst hk
        simp
      | succ k =>
        simp only [List.getElem?_cons_succ] at hk
        have := h3 k o' hk
        simpa using this
/-- The masks of a region. -/
def masksOf (ops : Array Oper) : List Nat := bef ops.toList [] ops.toList
theorem masksOf_length (ops : Array Oper) : (masksOf ops).length = ops.size := by
  obtain ⟨tl, h1, h2, _⟩ := bef_eq ops.toList ops.toList []
  unfold masksOf; rw [h1]; simpa using h2
theorem masksOf_bits {ops : Array Oper} {i b : Nat} {o : Oper} (ho : ops[i]? = some o) (h : Nat.testBit ((masksOf ops).getD i 0) b = true) :
    ∃ e ∈ o.after.toList, Region.binds .any e = true ∧ (e.on = b ∨ (e.on < i ∧ Nat.testBit ((masksOf ops).getD e.on 0) b = true)) := by
  obtain ⟨tl, h1, h2, h3⟩ := bef_eq ops.toList ops.toList []
  have hm : masksOf ops = tl := by unfold masksOf; rw [h1]; simp
  have hi := h3 i o (by simpa using ho)
  rw [hm, List.getD_eq_getElem?_getD, hi, Option.getD_some] at h
  obtain ⟨e, g1, g2, g3⟩ := waits_bits h
  refine ⟨e, g1, g2, ?_⟩
  rcases g3 with g3 | g3
  · exact .inl g3
  · refine .inr ?_
    simp only [List.reverse_nil, List.nil_append, List.getD_eq_getElem?_getD, List.getElem?_take] at g3
    by_cases hlt : e.on < i
    · rw [if_pos hlt] at g3
      exact ⟨hlt, by rw [hm, List.getD_eq_getElem?_getD]; exact g3⟩
    · rw [if_neg hlt] at g3; simp at g3
/-! ### what was tested -/
theorem okFrom_spec {opsA : Array Oper} {masks : List Nat} {k : Nat} {ok : Oper} {ck : Cls} : ∀ {l : List (Oper × Cls)} {j : Nat}, okFrom opsA masks k ok ck j l = true → ∀ y oj cj, l[y]? = some (oj, cj) →
    Nat.testBit (masks.getD (j + y) 0) k = true ∨ (ok.apart opsA oj = true ∧ compat ck cj = true)
  | [], _, _, _, _, _, h => by simp at h
  | (o, c) :: l, j, h, 0, oj, cj, hy => by
    simp only [List.getElem?_cons_zero, Option.some.injEq, Prod.mk.injEq] at hy
    obtain ⟨rfl, rfl⟩ := hy
    simp only [okFrom, Bool.and_eq_true, Bool.or_eq_true] at h
    exact h.1
  | (o, c) :: l, j, h, y + 1, oj, cj, hy => by
    simp only [List.getElem?_cons_succ] at hy
    simp only [okFrom, Bool.and_eq_true] at h
    have := okFrom_spec h.2 y oj cj hy
    rw [show j + (y + 1) = j + 1 + y by omega]; exact this
theorem okAll_spec {opsA : Array Oper} {masks : List Nat} : ∀ {l : List (Oper × Cls)} {k : Nat}, okAll opsA masks k l = true → ∀ x o c, l[x]? = some (o, c) →
    (∀ e ∈ o.after.toList, Region.binds .any e = true → e.on < k + x) ∧ ∀ y oj cj, x < y → l[y]? = some (oj, cj) → Nat.testBit (masks.getD (k + y) 0) (k + x) = true ∨ (o.apart opsA oj = true ∧ compat c cj = true)
  | [], _, _, _, _, _, h => by simp at h
  | (o, c) :: l, k, h, 0, o', c', hx => by
    simp only [List.getElem?_cons_zero, Option.some.injEq, Prod.mk.injEq] at hx
    obtain ⟨rfl, rfl⟩ := hx
    simp only [okAll, Bool.and_eq_true, List.all_eq_true] at h
    refine ⟨fun e he hb => ?_, fun y oj cj hy hl => ?_⟩
    · have := h.1.1 e he
      rw [hb] at this
      have := Nat.le_of_ble_eq_true this
      omega
    · cases y with
      | zero => omega
      | succ y =>
        simp only [List.getElem?_cons_succ] at hl
        have := okFrom_spec h.1.2 y oj cj hl
        rw [show k + (y + 1) = k + 1 + y by omega]; exact this
  | (o, c) :: l, k, h, x + 1, o', c', hx => by
    simp only [List.getElem?_cons_succ] at hx
    simp only [okAll, Bool.and_eq_true] at h
    obtain ⟨h1, h2⟩ := okAll_spec h.2 x o' c' hx
    refine ⟨fun e he hb => by have := h1 e he hb; omega, fun y oj cj hy hl => ?_⟩
    cases y with
    | zero => omega
    | succ y =>
      simp only [List.getElem?_cons_succ] at hl
      have := h2 y oj cj (by omega) hl
      rw [show k + (y + 1) = k + 1 + y by omega, show k + (x + 1) = k + 1 + x by omega]; exact this
theorem apartFrom_spec {t0 : Tr V} {n t : Nat} : ∀ {l : List Cls}, apartFrom t0 n t l = true → ∀ u, Cls.dstore u ∈ l → ∀ b c, blkOf t0 n t = some b → blkOf t0 n u = some c → b ≠ c
  | [], _, _, h, _, _, _, _ => by cases h
  | x :: l, h, u, hu, b, c, hb, hc => by
    rcases List.mem_cons.1 hu with e | e
    · subst e
      simp only [apartFrom, hb, hc, Bool.and_eq_true] at h
      intro e; subst e; simp at h
    · have : apartFrom t0 n t l = true := by
        cases x <;> first | exact h | (simp only [apartFrom, Bool.and_eq_true] at h; exact h.2)
      exact apartFrom_spec this u e b c hb hc
theorem dApart_spec {t0 : Tr V} {n : Nat} {all : List Cls} : ∀ {l : List Cls}, dApart t0 n all l = true → ∀ t, Cls.dload t ∈ l → apartFrom t0 n t all = true
  | [], _, _, h => by cases h
  | x :: l, h, t, ht => by
    rcases List.mem_cons.1 ht with e | e
    · subst e; simp only [dApart, Bool.and_eq_true] at h; exact h.1
    · have : dApart t0 n all l = true := by
        cases x <;> first | exact h | (simp only [dApart, Bool.and_eq_true] at h; exact h.2)
      exact dApart_spec this t e
theorem cls_plain {E : Env} {ops : List Oper} {o : Oper} (t : Nat) : clsOp E false ops o ≠ .dload t ∧ clsOp E false ops o ≠ .dstore t := by
  have hcc : ∀ c : Cls, callCls c ≠ .dload t ∧ callCls c ≠ .dstore t := fun c => by cases c <;> exact ⟨by simp [callCls], by simp [callCls]⟩
  unfold clsOp
  repeat' split
  all_goals first | contradiction | exact hcc _ | exact ⟨by simp, by simp⟩
theorem clsHs_plain {E : Env} {all : List (Option Nat)} {masks : List Nat} {c : Cls} : ∀ {os ops : List Oper} {hs : List (Option Nat)} {i : Nat}, c ∈ clsHs masks all i hs (os.map (clsOp E false ops)) → ∀ t, c ≠ .dload t ∧ c ≠ .dstore t
  | [], _, hs, i, h => by cases hs <;> cases h
  | o :: os, ops, [], i, h => by cases h
  | o :: os, ops, x :: hs, i, h => by
    simp only [List.map_cons, clsHs, List.mem_cons] at h
    intro t
    rcases h with rfl | h
    · have := cls_plain (E := E) (ops := ops) (o := o) t
      generalize clsOp E false ops o = y at this
      cases y <;> cases x <;> simp only [clsH1] <;> first | exact this | exact ⟨by simp, by simp⟩
    · exact clsHs_plain h t
theorem dap_of {E : Env} {ro : RO} {ops : Array Oper} {st : St} {cl : List Cls} (h : drawCls E ro ops st = some cl) {ci cj : Cls} (hi : ci ∈ cl) (hj : cj ∈ cl) : DAp st.tmps st.hp.nxt ci cj := by
  unfold drawCls at h
  split at h
  · injection h with h; subst h
    have p1 := clsHs_plain hi
    have p2 := clsHs_plain hj
    cases ci <;> cases cj <;> first | trivial | exact absurd rfl (p1 _).1 | exact absurd rfl (p1 _).2
  unfold drawCls0 at h
  split at h
  · injection h with h; subst h
    obtain ⟨oi, _, rfl⟩ := List.mem_map.1 hi
    obtain ⟨oj, _, rfl⟩ := List.mem_map.1 hj
    generalize hx : clsOp E false ops.toList oi = x
    generalize hy : clsOp E false ops.toList oj = y
    cases x <;> cases y <;> first | trivial | exact absurd hx (cls_plain _).1 | exact absurd hx (cls_plain _).2
  · split at h
    · rename_i hc
      injection h with h; subst h
      simp only [Bool.and_eq_true] at hc
      cases ci <;> cases cj <;> first | trivial | skip
      · exact apartFrom_spec (dApart_spec hc.2 _ hi) _ hj
      · exact apartFrom_spec (dApart_spec hc.2 _ hj) _ hi
    · split at h <;> try contradiction
      injection h with h; subst h
      have p1 := clsHs_plain hi
      have p2 := clsHs_plain hj
      cases ci <;> cases cj <;> first | trivial | exact absurd rfl (p1 _).1 | exact absurd rfl (p1 _).2
theorem ok_of {E : Env} {ro : RO} {ops : Array Oper} {st : St} {cl : List Cls} (h : drawCls E ro ops st = some cl) : drawOkL ops cl = true ∧ cl.length = ops.size := by
  unfold drawCls at h
  split at h
  · rename_i hc
    injection h with h; subst h
    simp only [Bool.and_eq_true] at hc
    exact ⟨hc.2.1, Nat.eq_of_beq_eq_true hc.2.2⟩
  unfold drawCls0 at h
  split at h
  · injection h with h; subst h; exact ⟨by assumption, by simp [clsList]⟩
  · split at h
    · rename_i hc
      injection h with h; subst h
      simp only [Bool.and_eq_true] at hc
      exact ⟨hc.1, by simp [clsList]⟩
    · split at h <;> try contradiction
      rename_i hc
      injection h with h; subst h
      simp only [Bool.and_eq_true] at hc
      exact ⟨hc.1, Nat.eq_of_beq_eq_true hc.2⟩
/-! ### any order -/
def runL (f : Nat → RS → Option RS) : List Nat → RS → Option RS
  | [], s => some s
  | j :: l, s => (f j s).bind (runL f l)
def Swap (f : Nat → RS → Option RS) (j i : Nat) : Prop := ∀ s r1 r2, f j s = some r1 → f i r1 = some r2 → ∃ r, f i s = some r ∧ f j r = some r2
theorem runL_front {f : Nat → RS → Option RS} {i : Nat} {post : List Nat} : ∀ {pre : List Nat} {s sf : RS}, runL f (pre ++ i :: post) s = some sf → (∀ j ∈ pre, Swap f j i) → ∃ r, f i s = some r ∧ runL f (pre ++ post) r = some sf
  | [], s, sf, h, _ => by
    simp only [List.nil_append, runL] at h
    obtain ⟨r, h1, h2⟩ := Option.bind_eq_some_iff.1 h
    exact ⟨r, h1, h2⟩
  | j :: pre, s, sf, h, hs => by
    simp only [List.cons_append, runL] at h
    obtain ⟨s1, h1, h2⟩ := Option.bind_eq_some_iff.1 h
    obtain ⟨r', h3, h4⟩ := runL_front h2 fun k hk => hs k (by simp [hk])
    obtain ⟨r, h5, h6⟩ := hs j (by simp) s s1 r' h1 h3
    exact ⟨r, h5, by simp only [List.cons_append, runL]; rw [h6]; exact h4⟩
def rem (n : Nat) (listed : Array Bool) : List Nat := (List.range n).filter fun k => !listed.getD k true
theorem mem_rem {n : Nat} {listed : Array Bool} {k : Nat} : k ∈ rem n listed ↔ k < n ∧ listed.getD k true = false := by
  simp [rem]
theorem getD_set {a : Array Bool} {i k : Nat} {b d : Bool} : (a.setIfInBounds i b).getD k d = if i = k ∧ i < a.size then b else a.getD k d := by
  simp only [Array.getD_eq_getD_getElem?, Array.getElem?_setIfInBounds]
  by_cases e : i = k
  · subst e
    by_cases h : i < a.size
    · simp [h]
    · simp [h]
  · simp [e]
theorem rem_split {n : Nat} {listed : Array Bool} {i : Nat} (h : i ∈ rem n listed) : ∃ pre post, rem n listed = pre ++ i :: post ∧ rem n (listed.setIfInBounds i true) = pre ++ post ∧ ∀ j ∈ pre, j < i ∧ j ∈ rem n listed := by
  have hs : (rem n listed).Pairwise (· < ·) := List.pairwise_lt_range.filter _
  obtain ⟨pre, post, e⟩ := List.append_of_mem h
  rw [e, List.pairwise_append] at hs
  obtain ⟨s1, s2, s3⟩ := hs
  refine ⟨pre, post, e, ?_, fun j hj => ⟨s3 j hj i (by simp), by rw [e]; simp [hj]⟩⟩
  have hlt : i < listed.size := by
    have := (mem_rem.1 h).2
    rcases Nat.lt_or_ge i listed.size with h' | h'
    · exact h'
    · simp [Array.getD_eq_getD_getElem?, Array.getElem?_eq_none h'] at this
  have e2 : rem n (listed.setIfInBounds i true) = (rem n listed).filter fun k => decide (k ≠ i) := by
    unfold rem
    rw [List.filter_filter]
    congr 1
    funext k
    rw [getD_set]
    by_cases hk : i = k
    · subst hk; simp [hlt]
    · have : k ≠ i := fun e => hk e.symm
      simp [hk, this]
  rw [e2, e, List.filter_append]
  congr 1
  · rw [List.filter_eq_self]
    intro j hj
    have := s3 j hj i (by simp)
    simp; omega
  · simp only [ne_eq, not_true, decide_false, Bool.false_eq_true, not_false_eq_true, List.filter_cons_of_neg]
    rw [List.filter_eq_self]
    intro j hj
    have := (List.pairwise_cons.1 s2).1 j hj
    simp; omega
def Closed (ops : Array Oper) (listed : Array Bool) : Prop := ∀ k, k < ops.size → listed.getD k true = true → ∀ b, Nat.testBit ((masksOf ops).getD k 0) b = true → listed.getD b false = true
section
variable {P : Program} {ops : Array Oper} {Q : Exit → Act → World → Prop} {f : Nat → RS → Option RS}
theorem ready_nil (hback : ∀ i o, ops[i]? = some o → ∀ e ∈ o.after.toList, Region.binds .any e = true → e.on < i) : ∀ listed : Array Bool, listed.size = ops.size → Region.ready .any ops listed = [] → rem ops.size listed = [] := by
  intro listed hsz h
  cases hr : rem ops.size listed with
  | nil => rfl
  | cons j t =>
    exfalso
    have hj : j ∈ rem ops.size listed := by rw [hr]; simp
    have hjr : j ∈ Region.ready .any ops listed := by
      obtain ⟨h1, h2⟩ := mem_rem.1 hj
      refine mem_ready.2 ⟨h2, ops[j], by simp [h1], fun e he hb => ?_⟩
      have hlt := hback j ops[j] (by simp [h1]) e (by simpa using he) hb
      refine Classical.byContradiction fun hne => ?_
      have hsorted : (rem ops.size listed).Pairwise (· < ·) := List.pairwise_lt_range.filter _
      have hmem : e.on ∈ rem ops.size listed := mem_rem.2 ⟨by omega, by
        have : e.on < listed.size := by omega
        simp only [Array.getD_eq_getD_getElem?, this, Array.getElem?_eq_getElem, Option.getD_some] at hne ⊢
        simpa using hne⟩
      rw [hr] at hmem hsorted
      rcases List.mem_cons.1 hmem with e1 | e1
      · omega
      · have := (List.pairwise_cons.1 hsorted).1 _ e1
        omega
    rw [h] at hjr; cases hjr
theorem draw_any (INV : Array Bool → RS → Act → World → Prop)
    (hback : ∀ i o, ops[i]? = some o → ∀ e ∈ o.after.toList, Region.binds .any e = true → e.on < i)
    (hswap : ∀ i j, j < i → i < ops.size → Nat.testBit ((masksOf ops).getD i 0) j = false → Swap f j i)
    (hstep : ∀ listed rs a w i rs', INV listed rs a w → i < ops.size → listed.getD i true = false → (∀ b, Nat.testBit ((masksOf ops).getD i 0) b = true → listed.getD b false = true) → f i rs = some rs' →
      ∀ K : Act → World → Prop, (∀ a' w', INV (listed.setIfInBounds i true) rs' a' w' → K a' w') → wpOp P ops Q i K a w)
    {rf : RS} (hfin : ∀ listed a w, rem ops.size listed = [] → INV listed rf a w → Q .normal a w) :
    ∀ (fuel : Nat) (listed : Array Bool) (rs : RS) (a : Act) (w : World), listed.size = ops.size → (rem ops.size listed).length ≤ fuel → Closed ops listed → INV listed rs a w → runL f (rem ops.size listed) rs = some rf → wpAny P .any ops Q fuel listed a w := by
  have hready := ready_nil hback
  intro fuel
  induction fuel with
  | zero =>
    intro listed rs a w hsz hlen hcl hI hrun
    have hnil : rem ops.size listed = [] := List.eq_nil_of_length_eq_zero (by omega)
    rw [hnil] at hrun
    injection hrun with hrun; subst hrun
    refine ⟨?_, hfin listed a w hnil hI⟩
    rw [List.eq_nil_iff_forall_not_mem]
    intro i hi
    obtain ⟨h1, o, h2, _⟩ := mem_ready.1 hi
    have hlt : i < ops.size := by
      rcases Nat.lt_or_ge i ops.size with h' | h'
      · exact h'
      · rw [Array.getElem?_eq_none h'] at h2; cases h2
    have : i ∈ rem ops.size listed := mem_rem.2 ⟨hlt, h1⟩
    rw [hnil] at this; cases this
  | succ fuel ih =>
    intro listed rs a w hsz hlen hcl hI hrun
    refine ⟨fun h => ?_, fun i hi => ?_⟩
    · have hnil := hready listed hsz h
      rw [hnil] at hrun
      injection hrun with hrun; subst hrun
      exact hfin listed a w hnil hI
    · obtain ⟨h1, o, h2, h3⟩ := mem_ready.1 hi
      have hlt : i < ops.size := by
        rcases Nat.lt_or_ge i ops.size with h' | h'
        · exact h'
        · rw [Array.getElem?_eq_none h'] at h2; cases h2
      have him : i ∈ rem ops.size listed := mem_rem.2 ⟨hlt, h1⟩
      obtain ⟨pre, post, e1, e2, e3⟩ := rem_split him
      have hbits : ∀ b, Nat.testBit ((masksOf ops).getD i 0) b = true → listed.getD b false = true := by
        intro b hb
        obtain ⟨e, g1, g2, g3⟩ := masksOf_bits h2 hb
        have hon := h3 e (by simpa using g1) g2
        rcases g3 with g3 | ⟨g3, g4⟩
        · rw [← g3]; exact hon
        · have hon' : listed.getD e.on true = true := by
            have : e.on < listed.size := by omega
            simp only [Array.getD_eq_getD_getElem?, this, Array.getElem?_eq_getElem, Option.getD_some] at hon ⊢
            exact hon
          exact hcl e.on (by omega) hon' b g4
      rw [e1] at hrun
      obtain ⟨rs', g1, g2⟩ := runL_front hrun fun j hj => by
        obtain ⟨q1, q2⟩ := e3 j hj
        refine hswap i j q1 hlt ?_
        cases hb : Nat.testBit ((masksOf ops).getD i 0) j
        · rfl
        · have h5 := hbits j hb
          have h6 := (mem_rem.1 q2).2
          have hj2 : j < listed.size := by omega
          simp only [Array.getD_eq_getD_getElem?, hj2, Array.getElem?_eq_getElem, Option.getD_some] at h5 h6
          rw [h5] at h6; cases h6
      refine hstep listed rs a w i rs' hI hlt h1 hbits g1 _ fun a' w' hI' => ?_
      refine ih (listed.setIfInBounds i true) rs' a' w' (by simpa using hsz) ?_ ?_ hI' (by rw [e2]; exact g2)
      · rw [e1] at hlen
        rw [e2]
        simp at hlen ⊢
        omega
      · intro k hk hl b hb
        rw [getD_set]
        split
        · rfl
        · rename_i hne
          rw [getD_set] at hl
          by_cases hki : i = k
          · subst hki; exact hbits b hb
          · rw [if_neg fun h => hki h.1] at hl
            exact hcl k hk hl b hb
theorem back_light {g : RS → PN → Prop} {p : PN} : ∀ {l : List Nat} {s r : RS}, runL f l s = some r → g r p → (∀ k ∈ l, ∀ s s1, f k s = some s1 → g s1 p → g s p) → g s p
  | [], s, r, h, hg, _ => by injection h with h; subst h; exact hg
  | k :: l, s, r, h, hg, hl => by
    simp only [runL] at h
    obtain ⟨s1, h1, h2⟩ := Option.bind_eq_some_iff.1 h
    exact hl k (by simp) s s1 h1 (back_light h2 hg fun k hk => hl k (by simp [hk]))
theorem draw_pan (INV : Array Bool → RS → Act → World → Prop)
    (hback : ∀ i o, ops[i]? = some o → ∀ e ∈ o.after.toList, Region.binds .any e = true → e.on < i)
    (hswap : ∀ i j, j < i → i < ops.size → Nat.testBit ((masksOf ops).getD i 0) j = false → Swap f j i)
    (hstep : ∀ listed rs a w i rs', INV listed rs a w → i < ops.size → listed.getD i true = false → (∀ b, Nat.testBit ((masksOf ops).getD i 0) b = true → listed.getD b false = true) → f i rs = some rs' →
      ∀ K : Act → World → Prop, (∀ a' w', INV (listed.setIfInBounds i true) rs' a' w' → K a' w') → wpOp P ops Q i K a w)
    {j0 : Nat} {p : PN} {g : RS → PN → Prop} (hj0 : j0 < ops.size) (hlater : ∀ i, j0 < i → i < ops.size → Nat.testBit ((masksOf ops).getD i 0) j0 = true)
    (hlight : ∀ k, k < j0 → Nat.testBit ((masksOf ops).getD j0 0) k = false → ∀ s s1, f k s = some s1 → g s1 p → g s p)
    (hpan : ∀ listed rs a w, INV listed rs a w → g rs p → ∀ K : Act → World → Prop, wpOp P ops Q j0 K a w) :
    ∀ (fuel : Nat) (listed : Array Bool) (rs : RS) (a : Act) (w : World), listed.size = ops.size → (rem ops.size listed).length ≤ fuel → Closed ops listed → INV listed rs a w → listed.getD j0 true = false →
      (∃ r0, runL f ((rem ops.size listed).filter (· < j0)) rs = some r0 ∧ g r0 p) → wpAny P .any ops Q fuel listed a w := by
  have hready := ready_nil hback
  intro fuel
  induction fuel with
  | zero =>
    intro listed rs a w hsz hlen hcl hI hj hrun
    have hnil : rem ops.size listed = [] := List.eq_nil_of_length_eq_zero (by omega)
    have : j0 ∈ rem ops.size listed := mem_rem.2 ⟨hj0, hj⟩
    rw [hnil] at this; cases this
  | succ fuel ih =>
    intro listed rs a w hsz hlen hcl hI hj hrun
    refine ⟨fun h => ?_, fun i hi => ?_⟩
    · have hnil := hready listed hsz h
      have : j0 ∈ rem ops.size listed := mem_rem.2 ⟨hj0, hj⟩
      rw [hnil] at this; cases this
    · obtain ⟨h1, o, h2, h3⟩ := mem_ready.1 hi
      have hlt : i < ops.size := by
        rcases Nat.lt_or_ge i ops.size with h' | h'
        · exact h'
        · rw [Array.getElem?_eq_none h'] at h2; cases h2
      have him : i ∈ rem ops.size listed := mem_rem.2 ⟨hlt, h1⟩
      obtain ⟨pre, post, e1, e2, e3⟩ := rem_split him
      have hbits : ∀ b, Nat.testBit ((masksOf ops).getD i 0) b = true → listed.getD b false = true := by
        intro b hb
        obtain ⟨e, g1, g2, g3⟩ := masksOf_bits h2 hb
        have hon := h3 e (by simpa using g1) g2
        rcases g3 with g3 | ⟨g3, g4⟩
        · rw [← g3]; exact hon
        · have hon' : listed.getD e.on true = true := by
            have : e.on < listed.size := by omega
            simp only [Array.getD_eq_getD_getElem?, this, Array.getElem?_eq_getElem, Option.getD_some] at hon ⊢
            exact hon
          exact hcl e.on (by omega) hon' b g4
      have unl : ∀ k, listed.getD k true = false → k < ops.size → Nat.testBit ((masksOf ops).getD i 0) k = false := fun k hk hks => by
        cases hb : Nat.testBit ((masksOf ops).getD i 0) k
        · rfl
        · have h5 := hbits k hb
          have hj2 : k < listed.size := by omega
          simp only [Array.getD_eq_getD_getElem?, hj2, Array.getElem?_eq_getElem, Option.getD_some] at h5 hk
          rw [h5] at hk; cases hk
      obtain ⟨r0, hrun, hg⟩ := hrun
      rcases Nat.lt_trichotomy i j0 with hij | hij | hij
      · have hf : (rem ops.size listed).filter (· < j0) = pre.filter (· < j0) ++ i :: post.filter (· < j0) := by
          rw [e1, List.filter_append, List.filter_cons_of_pos (by simpa using hij)]
        rw [hf] at hrun
        obtain ⟨rs', g1, g2⟩ := runL_front hrun fun j hj => by
          obtain ⟨q1, q2⟩ := e3 j (List.mem_filter.1 hj).1
          exact hswap i j q1 hlt (unl j (mem_rem.1 q2).2 (mem_rem.1 q2).1)
        refine hstep listed rs a w i rs' hI hlt h1 hbits g1 _ fun a' w' hI' => ?_
        refine ih (listed.setIfInBounds i true) rs' a' w' (by simpa using hsz) ?_ ?_ hI' ?_ ⟨r0, by rw [e2, List.filter_append]; exact g2, hg⟩
        · rw [e1] at hlen
          rw [e2]
          simp at hlen ⊢
          omega
        · intro k hk hl b hb
          rw [getD_set]
          split
          · rfl
          · rename_i hne
            rw [getD_set] at hl
            by_cases hki : i = k
            · subst hki; exact hbits b hb
            · rw [if_neg fun h => hki h.1] at hl
              exact hcl k hk hl b hb
        · rw [getD_set, if_neg (fun h => by omega)]; exact hj
      · subst hij
        refine hpan listed rs a w hI (back_light hrun hg fun k hk s s1 hs hgs => ?_) _
        obtain ⟨k1, k2⟩ := List.mem_filter.1 hk
        exact hlight k (by simpa using k2) (unl k (mem_rem.1 k1).2 (mem_rem.1 k1).1) s s1 hs hgs
      · exfalso
        have := unl j0 hj hj0
        rw [hlater i hij hlt] at this; cases this
end
end Go.Ev

/- Own text: operations of a region whose order is open: each one in the world. -/
namespace Go.Ev
section
variable {P : Program} {E : Env} {G : Nat} {ρ ρ' : Ren} {w0 : Base} {w w' : World} {F : Nat → Prop} {ro view : RO} {H H' own own' : Hp}
/-- Which blocks of the world a heap owns. -/
def OwnB (ρ : Ren) (own : Hp) (B : Nat) : Prop := ∃ id b tot, own.m.get id = some b ∧ ρ id = some (B, tot)
/-- A part of the heap as a heap of its own. -/
theorem Rel.rebase (hr : Rel w0 F G ro ρ H w) (hv : ∀ id b, own.at view id = some b → H.at ro id = some b) (hs : ∀ id b, own.m.get id = some b → view id = none)
    (hf : ∀ id, own.nxt ≤ id → id < own.lim → ρ id = none) (ho : ∀ id b, own.m.get id = some b → ∃ b', H.m.get id = some b') : Rel ⟨w, ρ, own.nxt⟩ (OwnB ρ own) G view ρ own w := by
  have ne : ∀ k, H.m.get k = none → own.m.get k = none := fun k hk => by
    cases hg : own.m.get k with
    | none => rfl
    | some b => obtain ⟨b', hb'⟩ := ho k b hg; rw [hk] at hb'; cases hb'
  refine ⟨fun id b h => ?_, fun i j b c B t t' hi hj e1 e2 => (hr.inj i j b c B t t' (hv _ _ hi) (hv _ _ hj) e1 e2).imp (fun e => e) fun q => ⟨ne _ q.1, ne _ q.2⟩, hs, hf, fun _ _ _ => rfl, Nat.le_refl _, rfl, rfl, rfl, hr.glob, fun id x h => .inl h, Nat.le_refl _, hr.fz.keep, fun id b B t h1 h2 => by obtain ⟨b', hb'⟩ := ho id b h1; exact hr.fz.sep _ _ _ _ hb' h2, fun B l h => .inl h⟩
  obtain ⟨B, t, o, h1, h2, h3, _⟩ := hr.blk id b (hv id b h)
  refine ⟨B, t, o, h1, h2, h3, ?_⟩
  cases hg : own.m.get id with
  | none => exact .inl rfl
  | some b' => exact .inr (.inl ⟨id, b', t, hg, h1⟩)
theorem at_split {hp : Hp} {id : Nat} {b : Blk} (h : hp.at ro id = some b) : hp.m.get id = some b ∨ (hp.m.get id = none ∧ ro id = some b) := by
  unfold Hp.at at h
  split at h
  · rename_i b' hb; injection h with h; subst h; exact .inl hb
  · rename_i hb; exact .inr ⟨hb, h⟩
theorem Rel.at_ro' {ρ : Ren} {hp : Hp} (hr : Rel w0 F G ro ρ hp w) {id : Nat} {b : Blk} (h : ro id = some b) : hp.at ro id = some b := by
  have : hp.m.get id = none := by
    cases hg : hp.m.get id with
    | none => rfl
    | some b' => rw [hr.sep id b' hg] at h; cases h
  simp only [Hp.at, this, h]
theorem at_get {hp : Hp} {id : Nat} {b : Blk} (h : hp.m.get id = some b) : hp.at ro id = some b := by simp [Hp.at, h]
/-- What was not the part's own is as it was. -/
theorem kept (hr : Rel w0 F G ro ρ H w) (hv : ∀ id b, own.at view id = some b → H.at ro id = some b) (ho : ∀ id b, own.m.get id = some b → ∃ b', H.m.get id = some b') (h' : Rel ⟨w, ρ, own.nxt⟩ (OwnB ρ own) G view ρ' own' w')
    {id : Nat} {b : Blk} (hb : H.at ro id = some b) (hn : own.m.get id = none) {B tot : Nat} (hB : ρ id = some (B, tot)) : ¬ OwnB ρ own B ∧ B < w.heap.size ∧ w'.heap[B]? = w.heap[B]? := by
  obtain ⟨B', t', o, h1, h2, _, _⟩ := hr.blk id b hb
  rw [hB] at h1
  obtain ⟨rfl, rfl⟩ := Prod.mk.inj (Option.some.inj h1)
  have hno : ¬ OwnB ρ own B := by
    intro ⟨id', b', t', g1, g2⟩
    have := (hr.inj _ _ _ _ _ _ _ hb (hv id' b' (at_get g1)) hB g2).resolve_right (fun q => by obtain ⟨b2, hb2⟩ := ho id' b' g1; rw [hb2] at q; cases q.2)
    subst this
    rw [hn] at g1; cases g1
  have hlt := lt_of_heap h2
  exact ⟨hno, hlt, h'.frame B hlt hno⟩
/-- After a part has run: the whole. -/
theorem Rel.after (hr : Rel w0 F G ro ρ H w) (hv : ∀ id b, own.at view id = some b → H.at ro id = some b) (hs : ∀ id b, own.m.get id = some b → view id = none) (ho : ∀ id b, own.m.get id = some b → ∃ b', H.m.get id = some b')
    (hle : ρ.le ρ') (h' : Rel ⟨w, ρ, own.nxt⟩ (OwnB ρ own) G view ρ' own' w')
    (m1 : ∀ id b, H'.at ro id = some b → (H.at ro id = some b ∧ own.m.get id = none) ∨ own'.at view id = some b) (m2 : ∀ id b, H'.m.get id = some b → ro id = none)
    (n1 : ∀ id, H'.nxt ≤ id → id < H'.lim → H.nxt ≤ id ∧ id < H.lim ∧ ¬ (own.nxt ≤ id ∧ id < own'.nxt)) (n2 : H.nxt ≤ H'.nxt) (n3 : w0.nxt ≤ own.nxt) (n4 : own'.nxt ≤ H'.nxt) :
    Rel w0 F G ro ρ' H' w' := by
  have ownF : ∀ id b, own.m.get id = some b → ∀ B t, ρ id = some (B, t) → F B ∨ w0.heap.size ≤ B := fun id b hb B t hB => by
    obtain ⟨b', hb'⟩ := ho id b hb
    obtain ⟨B', t', o, h1, _, _, h4⟩ := hr.blk id b' (at_get hb')
    rw [hB] at h1
    obtain ⟨rfl, rfl⟩ := Prod.mk.inj (Option.some.inj h1)
    exact h4.resolve_left (by rw [hb']; simp)
  have ownB : ∀ B, OwnB ρ own B → F B ∨ w0.heap.size ≤ B := fun B ⟨id, b, t, g1, g2⟩ => ownF id b g1 B t g2
  -- a block that is in the part's view alone
  have viewOld : ∀ id b, own'.m.get id = none → own'.at view id = some b → H.at ro id = some b ∧ own.m.get id = none := fun id b hn hb => by
    rcases at_split hb with h1 | ⟨_, h1⟩
    · rw [hn] at h1; cases h1
    · have hon : own.m.get id = none := by
        cases hg : own.m.get id with
        | none => rfl
        | some b' => rw [hs id b' hg] at h1; cases h1
      exact ⟨hv id b (by simp [Hp.at, hon, h1]), hon⟩
  have old : ∀ id b, H.at ro id = some b → own.m.get id = none → ∃ B tot o, ρ' id = some (B, tot) ∧ ρ id = some (B, tot) ∧ w'.heap[B]? = some o ∧ BR ρ' tot b o ∧ (H'.m.get id = none ∨ F B ∨ w0.heap.size ≤ B) ∧ ¬ OwnB ρ own B ∧ B < w.heap.size := fun id b hb hn => by
    obtain ⟨B, t, o, h1, h2, h3, h4⟩ := hr.blk id b hb
    obtain ⟨k1, k2, k3⟩ := kept hr hv ho h' hb hn h1
    refine ⟨B, t, o, hle _ _ h1, h1, by rw [k3]; exact h2, BR.mono hle _ _ h3, ?_, k1, k2⟩
    cases hg : H'.m.get id with
    | none => exact .inl rfl
    | some b' =>
      have hro := m2 id b' hg
      rcases at_split hb with q | ⟨_, q⟩
      · exact .inr (h4.resolve_left (by rw [q]; simp))
      · rw [hro] at q; cases q
  have new : ∀ id b, own'.at view id = some b → own'.m.get id ≠ none → ∃ B tot o, ρ' id = some (B, tot) ∧ w'.heap[B]? = some o ∧ BR ρ' tot b o ∧ (OwnB ρ own B ∨ w.heap.size ≤ B) := fun id b hb hn => by
    obtain ⟨B, t, o, h1, h2, h3, h4⟩ := h'.blk id b hb
    exact ⟨B, t, o, h1, h2, h3, h4.resolve_left hn⟩
  have m1' : ∀ id b, H'.at ro id = some b → (H.at ro id = some b ∧ own.m.get id = none) ∨ (own'.at view id = some b ∧ own'.m.get id ≠ none) := fun id b hb => by
    rcases m1 id b hb with h | h
    · exact .inl h
    · by_cases hn : own'.m.get id = none
      · exact .inl (viewOld id b hn h)
      · exact .inr ⟨h, hn⟩
  refine ⟨fun id b h => ?_, fun i j b c B t t' hi hj r1 r2 => ?_, m2, fun id h1 h2 => ?_, fun B hB hF => ?_, Nat.le_trans hr.size h'.size, h'.tape.trans hr.tape, h'.os.trans hr.os, h'.output.trans hr.output, h'.glob, fun id x h => ?_, Nat.le_trans hr.le0 n2, h'.fz.keep, fun id b B t g1 g2 => ?_, fun B l g => ?_⟩
  rotate_left 5
  · have hat : H'.at ro id = some b := at_get g1
    rcases m1' id b hat with ⟨h1, h2⟩ | ⟨h1, h2⟩
    · obtain ⟨B1, t1, _, k1, k2, _, _, _, k5, k6⟩ := old id b h1 h2
      rw [g2] at k1
      obtain ⟨rfl, rfl⟩ := Prod.mk.inj (Option.some.inj k1)
      cases hq : ρ'.H B with
      | none => rfl
      | some l =>
        rcases h'.fz.new B l hq with q | q | q
        · have hm : ∃ b', H.m.get id = some b' := by
            cases hg : H.m.get id with
            | some b' => exact ⟨b', rfl⟩
            | none =>
              rcases at_split h1 with q1 | ⟨_, q1⟩
              · rw [hg] at q1; cases q1
              · rw [m2 id b g1] at q1; cases q1
          obtain ⟨b', hb'⟩ := hm
          have q : ρ.H B = some l := q
          rw [hr.fz.sep _ _ _ _ hb' k2] at q; cases q
        · exact absurd q k5
        · have q : w.heap.size ≤ B := q
          omega
    · cases hg : own'.m.get id with
      | none => exact absurd hg h2
      | some b' => exact h'.fz.sep _ _ _ _ hg g2
  · rcases h'.fz.new B l g with q | q | q
    · exact hr.fz.new B l q
    · exact .inr (ownB B q)
    · exact .inr (.inr (Nat.le_trans hr.size q))
  · rcases m1' id b h with ⟨h1, h2⟩ | ⟨h1, h2⟩
    · obtain ⟨B, t, o, k1, _, k2, k3, k4, _⟩ := old id b h1 h2
      exact ⟨B, t, o, k1, k2, k3, k4⟩
    · obtain ⟨B, t, o, k1, k2, k3, k4⟩ := new id b h1 h2
      refine ⟨B, t, o, k1, k2, k3, .inr ?_⟩
      rcases k4 with k4 | k4
      · exact ownB B k4
      · exact .inr (Nat.le_trans hr.size k4)
  · rcases m1' i b hi with ⟨h1, h2⟩ | ⟨h1, h2⟩ <;> rcases m1' j c hj with ⟨h3, h4⟩ | ⟨h3, h4⟩
    · obtain ⟨B1, t1, _, k1, k2, _⟩ := old i b h1 h2
      obtain ⟨B2, t2, _, k3, k4, _⟩ := old j c h3 h4
      rw [r1] at k1; rw [r2] at k3
      obtain ⟨rfl, rfl⟩ := Prod.mk.inj (Option.some.inj k1)
      obtain ⟨rfl, rfl⟩ := Prod.mk.inj (Option.some.inj k3)
      have ne : ∀ k d, H.at ro k = some d → H.m.get k = none → H'.m.get k = none := fun k d hd hk => by
        cases hg : H'.m.get k with
        | none => rfl
        | some b' =>
          rcases at_split hd with q | ⟨_, q⟩
          · rw [hk] at q; cases q
          · rw [m2 k b' hg] at q; cases q
      exact (hr.inj _ _ _ _ _ _ _ h1 h3 k2 k4).imp (fun e => e) fun q => ⟨ne _ _ h1 q.1, ne _ _ h3 q.2⟩
    · exfalso
      obtain ⟨B1, t1, _, k1, k2, _, _, _, k5, k6⟩ := old i b h1 h2
      obtain ⟨B2, t2, _, k3, _, _, k4⟩ := new j c h3 h4
      rw [r1] at k1; rw [r2] at k3
      obtain ⟨rfl, rfl⟩ := Prod.mk.inj (Option.some.inj k1)
      obtain ⟨rfl, rfl⟩ := Prod.mk.inj (Option.some.inj k3)
      rcases k4 with k4 | k4
      · exact k5 k4
      · omega
    · exfalso
      obtain ⟨B1, t1, _, k1, k2, _, _, _, k5, k6⟩ := old j c h3 h4
      obtain ⟨B2, t2, _, k3, _, _, k4⟩ := new i b h1 h2
      rw [r2] at k1; rw [r1] at k3
      obtain ⟨rfl, rfl⟩ := Prod.mk.inj (Option.some.inj k1)
      obtain ⟨rfl, rfl⟩ := Prod.mk.inj (Option.some.inj k3)
      rcases k4 with k4 | k4
      · exact k5 k4
      · omega
    · exact .inl ((h'.inj _ _ _ _ _ _ _ h1 h3 r1 r2).resolve_right (fun q => h2 q.1))
  · obtain ⟨g1, g2, g3⟩ := n1 id h1 h2
    cases hx : ρ' id with
    | none => rfl
    | some x =>
      rcases h'.ren id x hx with k | k
      · have : ρ id = some x := k
        rw [hr.fresh id g1 g2] at this; cases this
      · exact absurd k g3
  · rw [h'.frame B (Nat.lt_of_lt_of_le hB hr.size) fun h => by
      rcases ownB B h with h1 | h1
      · exact hF h1
      · omega]
    exact hr.frame B hB hF
  · rcases h'.ren id x h with k | k
    · rcases hr.ren id x k with k | k
      · exact .inl k
      · exact .inr ⟨k.1, by omega⟩
    · have k1 : own.nxt ≤ id := k.1
      exact .inr ⟨by omega, by omega⟩
/-- After a part that owned nothing: the whole as it was. -/
theorem Rel.looked (hr : Rel w0 F G ro ρ H w) (hv : ∀ id b, own.at view id = some b → H.at ro id = some b) (hn : ∀ id, own.m.get id = none) (h' : Rel ⟨w, ρ, own.nxt⟩ (OwnB ρ own) G view ρ' own' w') : Rel w0 F G ro ρ H w' := by
  have hno : ∀ B, ¬ OwnB ρ own B := fun B ⟨id, b, _, g, _⟩ => by rw [hn id] at g; cases g
  refine ⟨fun id b h => ?_, hr.inj, hr.sep, hr.fresh, fun B hB hF => ?_, Nat.le_trans hr.size h'.size, h'.tape.trans hr.tape, h'.os.trans hr.os, h'.output.trans hr.output, hr.glob, hr.ren, hr.le0, fun B l hl => ?_, hr.fz.sep, hr.fz.new⟩
  rotate_left 2
  · obtain ⟨t, fz, q⟩ := hr.fz.keep B l hl
    refine ⟨t, fz, ?_⟩
    rw [h'.frame B (lt_of_heap q) (hno B)]
    exact q
  · obtain ⟨B, t, o, h1, h2, h3, h4⟩ := hr.blk id b h
    obtain ⟨_, _, k⟩ := kept hr hv (fun id b hb => by rw [hn id] at hb; cases hb) h' h (hn id) h1
    exact ⟨B, t, o, h1, by rw [k]; exact h2, h3, h4⟩
  · rw [h'.frame B (Nat.lt_of_lt_of_le hB hr.size) (hno B)]
    exact hr.frame B hB hF
end
mutual
/-- A value that leads to what was there alone. -/
theorem under_mono {ρ ρ' : Ren} {n : Nat} (h' : ∀ id x, ρ' id = some x → id < n → ρ id = some x) : ∀ (v : V) (x : Value), V.under n v = true → VR ρ' v x → VR ρ v x
  | .any, _, h, _ => by simp [V.under] at h
  | .bool _, _, _, h => h
  | .sbool _, _, _, h => h
  | .int .., _, _, h => h
  | .str _, _, _, h => h
  | .ssym _, _, _, h => h
  | .nilp, _, _, h => h
  | .ptr b o, _, hu, ⟨B, tot, m, h1, h2⟩ => ⟨B, tot, m, h' _ _ h1 (Nat.le_of_ble_eq_true hu), h2⟩
  | .nils, _, _, h => h
  | .slice b .., _, hu, ⟨B, tot, m, len, cap, h1, h2⟩ => ⟨B, tot, m, len, cap, h' _ _ h1 (Nat.le_of_ble_eq_true hu), h2⟩
  | .nilm, _, _, h => h
  | .map b, _, hu, ⟨B, tot, h1, h2⟩ => ⟨B, tot, h' _ _ h1 (Nat.le_of_ble_eq_true hu), h2⟩
  | .func _ first cap, _, hu, ⟨f, c, h1, h2, h3⟩ => by
    simp only [V.under, Bool.and_eq_true] at hu
    exact ⟨f, c, h1, unders_mono h' first f hu.1 h2, unders_mono h' cap c hu.2 h3⟩
  | .nilf, _, _, h => h
  | .iface _ x, _, hu, ⟨y, h1, h2⟩ => ⟨y, h1, under_mono h' x y hu h2⟩
  | .nili, _, _, h => h
  | .agg cs, _, hu, ⟨l, h1, h2⟩ => ⟨l, h1, unders_mono h' cs l hu h2⟩
  | .tup cs, _, hu, ⟨l, h1, h2⟩ => ⟨l, h1, unders_mono h' cs l hu h2⟩
  | .wptr .., _, hu, ⟨B, s, n, h1, h2⟩ => ⟨B, s, n, h' _ _ h1 (Nat.le_of_ble_eq_true hu), h2⟩
  | .wsl .., _, hu, ⟨B, s, n, l, cap, h1, h2⟩ => ⟨B, s, n, l, cap, h' _ _ h1 (Nat.le_of_ble_eq_true hu), h2⟩
theorem unders_mono {ρ ρ' : Ren} {n : Nat} (h' : ∀ id x, ρ' id = some x → id < n → ρ id = some x) : ∀ (vs : List V) (l : List Value), unders n vs = true → VRs ρ' vs l → VRs ρ vs l
  | [], _, _, h => h
  | v :: vs, _, hu, ⟨x, xs, h1, h2, h3⟩ => by
    simp only [unders, Bool.and_eq_true] at hu
    exact ⟨x, xs, h1, under_mono h' v x hu.1 h2, unders_mono h' vs xs hu.2 h3⟩
end
/-! ### the side blocks and the whole -/
theorem addS_get {m : Tr Blk} : ∀ {l : Side} {id : Nat}, (addS m l).get id = match findS l id with
    | some b => some b
    | none => m.get id
  | [], _ => rfl
  | (j, b) :: r, id => by
    simp only [addS, findS, Tr.get_set]
    by_cases h : id = j
    · subst h; simp
    · rw [if_neg h]
      have : Nat.beq j id = false := by
        cases hb : Nat.beq j id
        · rfl
        · exact absurd (Nat.eq_of_beq_eq_true hb).symm h
      rw [this, addS_get]
theorem addSs_get {m : Tr Blk} {mask : Nat} : ∀ {l : List (Option Side)} {i id : Nat}, (addSs m l i mask).get id = match findSs l i mask id with
    | some b => some b
    | none => m.get id
  | [], _, _ => rfl
  | s :: r, i, id => by
    cases ht : Nat.testBit mask i
    · simp only [addSs, findSs, ht, addSs_get (l := r) (i := i + 1)]
    · cases s with
      | none => simp only [addSs, findSs, ht, addSs_get (l := r) (i := i + 1)]
      | some l =>
        simp only [addSs, findSs, ht, addS_get, addSs_get (l := r) (i := i + 1)]
        cases findS l id <;> rfl
theorem findSs_some {mask id : Nat} {b : Blk} : ∀ {l : List (Option Side)} {i : Nat}, findSs l i mask id = some b → ∃ k s, l[k]? = some (some s) ∧ Nat.testBit mask (i + k) = true ∧ findS s id = some b
  | [], _, h => by cases h
  | s :: r, i, h => by
    have hrec : findSs r (i + 1) mask id = some b → ∃ k s', (s :: r)[k]? = some (some s') ∧ Nat.testBit mask (i + k) = true ∧ findS s' id = some b := fun h => by
      obtain ⟨k, s', h1, h2, h3⟩ := findSs_some h
      exact ⟨k + 1, s', by simpa using h1, by rw [show i + (k + 1) = i + 1 + k by omega]; exact h2, h3⟩
    cases ht : Nat.testBit mask i
    · simp only [findSs, ht] at h; exact hrec h
    · cases s with
      | none => simp only [findSs, ht] at h; exact hrec h
      | some l =>
        simp only [findSs, ht] at h
        split at h
        · rename_i b' hb
          injection h with h; subst h
          exact ⟨0, l, rfl, ht, hb⟩
        · exact hrec h
theorem findSs_none {mask id : Nat} : ∀ {l : List (Option Side)} {i : Nat}, findSs l i mask id = none → ∀ k s, l[k]? = some (some s) → Nat.testBit mask (i + k) = true → findS s id = none
  | [], _, _, k, _, h, _ => by simp at h
  | s :: r, i, h, k, s', hk, ht => by
    have hr : findSs r (i + 1) mask id = none := by
      cases hb : Nat.testBit mask i
      · simp only [findSs, hb] at h; exact h
      · cases s with
        | none => simp only [findSs, hb] at h; exact h
        | some l =>
          simp only [findSs, hb] at h
          split at h
          · cases h
          · exact h
    cases k with
    | zero =>
      simp only [List.getElem?_cons_zero, Option.some.injEq] at hk
      subst hk
      simp only [findSs, show Nat.testBit mask i = true from ht] at h
      split at h
      · cases h
      · assumption
    | succ k =>
      simp only [List.getElem?_cons_succ] at hk
      exact findSs_none hr k s' hk (by rw [show i + 1 + k = i + (k + 1) by omega]; exact ht)
theorem clearS_get {mask : Nat} : ∀ {l : List (Option Side)} {i k : Nat} {s : Side}, (clearS l i mask)[k]? = some (some s) → l[k]? = some (some s) ∧ Nat.testBit mask (i + k) = false
  | [], _, _, _, h => by simp [clearS] at h
  | s :: r, i, 0, s', h => by
    simp only [clearS, List.getElem?_cons_zero, Option.some.injEq] at h
    split at h
    · cases h
    · rename_i ht; subst h; exact ⟨rfl, ht⟩
  | s :: r, i, k + 1, s', h => by
    simp only [clearS, List.getElem?_cons_succ] at h
    obtain ⟨h1, h2⟩ := clearS_get h
    exact ⟨by simpa using h1, by rw [show i + (k + 1) = i + 1 + k by omega]; exact h2⟩
theorem clearS_length {mask : Nat} : ∀ (l : List (Option Side)) (i : Nat), (clearS l i mask).length = l.length
  | [], _ => rfl
  | s :: r, i => by simp [clearS, clearS_length r (i + 1)]
theorem clearS_none {mask : Nat} : ∀ {l : List (Option Side)} {i k : Nat}, l[k]? = some none → (clearS l i mask)[k]? = some none
  | [], _, _, h => by simp at h
  | s :: r, i, 0, h => by
    simp only [List.getElem?_cons_zero, Option.some.injEq] at h
    subst h
    simp only [clearS, List.getElem?_cons_zero]
    split <;> rfl
  | s :: r, i, k + 1, h => by
    simp only [List.getElem?_cons_succ] at h
    simp only [clearS, List.getElem?_cons_succ]
    exact clearS_none h
theorem sideOf_find {m : Tr Blk} : ∀ {n f : Nat} {l : Side} {id : Nat} {b : Blk}, sideOf m f n = some l → findS l id = some b → m.get id = some b ∧ f ≤ id ∧ id < f + n
  | 0, f, l, id, b, h, h' => by injection h with h; subst h; cases h'
  | n + 1, f, l, id, b, h, h' => by
    unfold sideOf at h
    split at h <;> try contradiction
    · rename_i b' r h1 h2
      injection h with h; subst h
      simp only [findS] at h'
      split at h'
      · rename_i hb
        have e := Nat.eq_of_beq_eq_true hb
        subst e
        injection h' with h'; subst h'
        exact ⟨h1, by omega, by omega⟩
      · obtain ⟨g1, g2, g3⟩ := sideOf_find h2 h'
        exact ⟨g1, by omega, by omega⟩
    · rename_i r h1 h2
      injection h with h; subst h
      obtain ⟨g1, g2, g3⟩ := sideOf_find h2 h'
      exact ⟨g1, by omega, by omega⟩
end Go.Ev

/- Own text: operations of a region whose order is open: what holds between them. -/
namespace Go.Ev
def comb (n : Nat) (rs : RS) : Hp := ⟨addSs rs.hp.m rs.side 0 (2 ^ n - 1), rs.hp.nxt, rs.hp.lim⟩
/-- What holds while the operations of a region come in some order. -/
structure DI (w0 : Base) (F : Nat → Prop) (G : Nat) (ro : RO) (nt n b0 stride : Nat) (dfr : List ADef) (ρ0 : Ren) (listed : Array Bool) (rs : RS) (a : Act) (w : World) (ρ : Ren) : Prop where
  le : ρ0.le ρ
  rel : Rel w0 F G ro ρ (comb n rs) w
  tr : TR ρ rs.tmps a.tmps
  dr : DR ρ dfr a.defers
  nt : nt = a.tmps.size
  len : rs.side.length = n
  lsz : listed.size = n
  opn : ∀ j, j < n → listed.getD j true = false → rs.side[j]? = some none ∧ ∀ id, b0 + j * stride ≤ id → id < b0 + j * stride + stride → ρ id = none
  area : ∀ (j : Nat) (l : Side) (id : Nat) (b : Blk), rs.side[j]? = some (some l) → findS l id = some b → b0 + j * stride ≤ id ∧ id < b0 + j * stride + stride ∧ rs.hp.at ro id = none
  nxt : b0 + n * stride ≤ rs.hp.nxt
  sep : ∀ id b, rs.hp.m.get id = some b → ro id = none
  base : w0.nxt ≤ b0
theorem area_disj {b0 s j k id : Nat} (h1 : b0 + j * s ≤ id) (h2 : id < b0 + j * s + s) (h3 : b0 + k * s ≤ id) (h4 : id < b0 + k * s + s) : j = k := by
  rcases Nat.lt_trichotomy j k with h | h | h
  · have : (j + 1) * s ≤ k * s := Nat.mul_le_mul_right s h
    rw [Nat.add_mul, Nat.one_mul] at this; omega
  · exact h
  · have : (k + 1) * s ≤ j * s := Nat.mul_le_mul_right s h
    rw [Nat.add_mul, Nat.one_mul] at this; omega
theorem area_top {b0 s j n : Nat} (h : j < n) : b0 + j * s + s ≤ b0 + n * s := by
  have : (j + 1) * s ≤ n * s := Nat.mul_le_mul_right s h
  rw [Nat.add_mul, Nat.one_mul] at this; omega
theorem full_bit {n k : Nat} (h : k < n) : Nat.testBit (2 ^ n - 1) k = true := by
  rw [Nat.testBit_two_pow_sub_one]; simpa using h
section
variable {w0 : Base} {F : Nat → Prop} {G : Nat} {ro : RO} {nt n b0 stride : Nat} {dfr : List ADef} {ρ0 ρ ρ' : Ren} {listed : Array Bool} {rs : RS} {a : Act} {w w' : World} {j : Nat} {o : Oper}
theorem DI.view (d : DI w0 F G ro nt n b0 stride dfr ρ0 listed rs a w ρ) {mask id : Nat} {b : Blk} (h : viewS ro rs mask id = some b) : (comb n rs).at ro id = some b := by
  have hat : (comb n rs).at ro id = match findSs rs.side 0 (2 ^ n - 1) id with
      | some b => some b
      | none => rs.hp.at ro id := by
    simp only [comb, Hp.at, addSs_get]
    cases findSs rs.side 0 (2 ^ n - 1) id <;> rfl
  rw [hat]
  unfold viewS at h
  cases hf : findSs rs.side 0 mask id with
  | some b' =>
    rw [hf] at h
    injection h with h; subst h
    obtain ⟨k, s, h1, _, h3⟩ := findSs_some hf
    have hk : k < n := by rw [← d.len]; exact (List.getElem?_eq_some_iff.1 h1).1
    obtain ⟨a1, a2, _⟩ := d.area k s id b' h1 h3
    cases hg : findSs rs.side 0 (2 ^ n - 1) id with
    | none => rw [findSs_none hg k s h1 (by rw [Nat.zero_add]; exact full_bit hk)] at h3; cases h3
    | some b'' =>
      obtain ⟨k', s', g1, _, g3⟩ := findSs_some hg
      obtain ⟨c1, c2, _⟩ := d.area k' s' id b'' g1 g3
      have e := area_disj a1 a2 c1 c2
      subst e
      rw [h1] at g1
      injection g1 with g1; injection g1 with g1; subst g1
      rw [h3] at g3; exact g3.symm
  | none =>
    rw [hf] at h
    cases hg : findSs rs.side 0 (2 ^ n - 1) id with
    | none => exact h
    | some b'' =>
      obtain ⟨k', s', g1, _, g3⟩ := findSs_some hg
      obtain ⟨_, _, c3⟩ := d.area k' s' id b'' g1 g3
      rw [c3] at h; cases h
theorem view_zero {id : Nat} : viewS ro rs 0 id = rs.hp.at ro id := by
  unfold viewS
  cases h : findSs rs.side 0 0 id with
  | none => rfl
  | some b => obtain ⟨k, s, _, h2, _⟩ := findSs_some h; simp at h2
theorem DI.hp_at (d : DI w0 F G ro nt n b0 stride dfr ρ0 listed rs a w ρ) {id : Nat} {b : Blk} (h : rs.hp.at ro id = some b) : (comb n rs).at ro id = some b :=
  d.view (mask := 0) (by rw [view_zero]; exact h)
theorem DI.ro_at (d : DI w0 F G ro nt n b0 stride dfr ρ0 listed rs a w ρ) {id : Nat} {b : Blk} (h : ro id = some b) : (comb n rs).at ro id = some b := by
  refine d.hp_at ?_
  unfold Hp.at
  cases hg : rs.hp.m.get id with
  | none => exact h
  | some b' => rw [d.sep id b' hg] at h; cases h
theorem listed_set {k : Nat} (hl : listed.size = n) (hj : j < n) (h : (listed.setIfInBounds j true).getD k true = false) : k ≠ j ∧ listed.getD k true = false := by
  rw [getD_set] at h
  split at h
  · cases h
  · rename_i hne
    exact ⟨fun e => hne ⟨e.symm, by omega⟩, h⟩
/-- An operation that makes new blocks, or none. -/
theorem DI.new (d : DI w0 F G ro nt n b0 stride dfr ρ0 listed rs a w ρ) (hj : j < n) (hl : listed.getD j true = false) {view : RO} (hv : ∀ id b, view id = some b → (comb n rs).at ro id = some b)
    {hp' : Hp} {v v2 : V} {x : Value} {q : V × Eff} (hle : ρ.le ρ') (h' : Rel ⟨w, ρ, (areaHp b0 stride j).nxt⟩ (OwnB ρ (areaHp b0 stride j)) G view ρ' hp' w') (hx : VR ρ' v2 x)
    (hq : (newC (b0 + j * stride) (b0 + j * stride + stride) v hp').run = some q) (hd : dstOk nt o.dst = true) :
    DI w0 F G ro nt n b0 stride dfr ρ0 (listed.setIfInBounds j true) (applyE j o rs v2 q.2) (a.put o.dst x) w' ρ' := by
  have hvv : ∀ id b, (areaHp b0 stride j).at view id = some b → (comb n rs).at ro id = some b := fun id b h => hv id b h
  have htop : b0 + j * stride + stride ≤ b0 + n * stride := area_top hj
  have hnx := d.nxt
  have hb := d.base
  -- how far the numbers went
  have hnx' : hp'.nxt ≤ b0 + j * stride + stride ∧ b0 + j * stride ≤ hp'.nxt ∧ ((q.2 = .keep ∧ hp'.nxt = b0 + j * stride) ∨ ∃ l, q.2 = .side l ∧ sideOf hp'.m (b0 + j * stride) (hp'.nxt - (b0 + j * stride)) = some l) := by
    have hle0 : b0 + j * stride ≤ hp'.nxt := h'.le0
    unfold newC at hq
    split at hq
    · rename_i he
      have he := Nat.eq_of_beq_eq_true he
      injection hq with hq; subst hq
      exact ⟨by omega, hle0, .inl ⟨rfl, he⟩⟩
    · split at hq <;> try (cases hq; done)
      rename_i hble
      have hble := Nat.le_of_ble_eq_true hble
      split at hq <;> try (cases hq; done)
      rename_i l hs
      injection hq with hq; subst hq
      exact ⟨hble, hle0, .inr ⟨l, rfl, hs⟩⟩
  obtain ⟨u1, u2, u3⟩ := hnx'
  have opn' : ∀ k, k < n → (listed.setIfInBounds j true).getD k true = false → rs.side[k]? = some none ∧ k ≠ j ∧ ∀ id, b0 + k * stride ≤ id → id < b0 + k * stride + stride → ρ' id = none := by
    intro k hk hlk
    obtain ⟨hne, hlk'⟩ := listed_set d.lsz hj hlk
    obtain ⟨o1, o2⟩ := d.opn k hk hlk'
    refine ⟨o1, hne, fun id i1 i2 => ?_⟩
    cases hr : ρ' id with
    | none => rfl
    | some y =>
      rcases h'.ren id y hr with k1 | k1
      · have : ρ id = some y := k1
        rw [o2 id i1 i2] at this; cases this
      · have k2 : b0 + j * stride ≤ id := k1.1
        exact absurd (area_disj i1 i2 k2 (by omega)) hne
  have freshArea : ∀ id, b0 + j * stride ≤ id → id < b0 + j * stride + stride → rs.hp.at ro id = none := fun id i1 i2 => by
    cases hh : rs.hp.at ro id with
    | none => rfl
    | some b =>
      obtain ⟨B, t, _, e1, _⟩ := d.rel.blk id b (d.hp_at hh)
      rw [(d.opn j hj hl).2 id i1 i2] at e1; cases e1
  rcases u3 with ⟨e1, e2⟩ | ⟨l, e1, e2⟩
  · rw [e1]
    refine ⟨d.le.trans hle, ?_, TR.put (TR.mono hle d.tr) o.dst hx hd d.nt, by cases o.dst <;> exact DR.mono hle d.dr, by rw [size_put]; exact d.nt, d.len, by simpa using d.lsz, fun k hk hlk => ?_, d.area, d.nxt, d.sep, d.base⟩
    · refine Rel.after (H' := comb n rs) (own := areaHp b0 stride j) d.rel hvv (fun id b h => by cases h) (fun id b h => by cases h) hle h' (fun id b h => .inl ⟨h, rfl⟩) d.rel.sep (fun id i1 i2 => ⟨i1, i2, fun ⟨i3, i4⟩ => ?_⟩) (Nat.le_refl _) ?_ ?_
      · have i3 : b0 + j * stride ≤ id := i3
        omega
      · show w0.nxt ≤ b0 + j * stride
        omega
      · show hp'.nxt ≤ rs.hp.nxt
        omega
    · obtain ⟨o1, _, o3⟩ := opn' k hk hlk
      exact ⟨o1, o3⟩
  · rw [e1]
    have sideGet : ∀ k s, (rs.side.set j (some l))[k]? = some (some s) → (k = j ∧ s = l) ∨ (k ≠ j ∧ rs.side[k]? = some (some s)) := fun k s h => by
      rw [List.getElem?_set] at h
      split at h
      · rename_i e
        split at h
        · injection h with h; injection h with h; exact .inl ⟨e.symm, h.symm⟩
        · cases h
      · rename_i e; exact .inr ⟨fun e2 => e e2.symm, h⟩
    have lfind : ∀ id b, findS l id = some b → hp'.m.get id = some b ∧ b0 + j * stride ≤ id ∧ id < b0 + j * stride + stride := fun id b h => by
      obtain ⟨g1, g2, g3⟩ := sideOf_find e2 h
      exact ⟨g1, g2, by omega⟩
    have area' : ∀ (k : Nat) (s : Side) (id : Nat) (b : Blk), (rs.side.set j (some l))[k]? = some (some s) → findS s id = some b → b0 + k * stride ≤ id ∧ id < b0 + k * stride + stride ∧ rs.hp.at ro id = none := fun k s id b hk hs => by
      rcases sideGet k s hk with ⟨rfl, rfl⟩ | ⟨_, h⟩
      · obtain ⟨_, g2, g3⟩ := lfind id b hs
        exact ⟨g2, g3, freshArea id g2 g3⟩
      · exact d.area k s id b h hs
    have opn2 : ∀ k, k < n → (listed.setIfInBounds j true).getD k true = false → (rs.side.set j (some l))[k]? = some none ∧ ∀ id, b0 + k * stride ≤ id → id < b0 + k * stride + stride → ρ' id = none := fun k hk hlk => by
      obtain ⟨o1, o2, o3⟩ := opn' k hk hlk
      exact ⟨by rw [List.getElem?_set, if_neg fun e => o2 e.symm]; exact o1, o3⟩
    refine ⟨d.le.trans hle, ?_, TR.put (TR.mono hle d.tr) o.dst hx hd d.nt, by cases o.dst <;> exact DR.mono hle d.dr, by rw [size_put]; exact d.nt, by simpa [applyE] using d.len, by simpa using d.lsz, opn2, area', d.nxt, d.sep, d.base⟩
    have at' : ∀ id b, (comb n (applyE j o rs v2 (.side l))).at ro id = some b → (∃ k s, (rs.side.set j (some l))[k]? = some (some s) ∧ findS s id = some b) ∨ rs.hp.at ro id = some b := fun id b h => by
      have e : (comb n (applyE j o rs v2 (.side l))).at ro id = match findSs (rs.side.set j (some l)) 0 (2 ^ n - 1) id with
          | some b => some b
          | none => rs.hp.at ro id := by
        simp only [comb, applyE, Hp.at, addSs_get]
        cases findSs (rs.side.set j (some l)) 0 (2 ^ n - 1) id <;> rfl
      rw [e] at h
      split at h
      · rename_i b' hf
        injection h with h; subst h
        obtain ⟨k, s, h1, _, h3⟩ := findSs_some hf
        exact .inl ⟨k, s, h1, h3⟩
      · exact .inr h
    refine Rel.after (own := areaHp b0 stride j) d.rel hvv (fun id b h => by cases h) (fun id b h => by cases h) hle h' (fun id b h => ?_) (fun id b h => ?_) (fun id i1 i2 => ⟨i1, i2, fun ⟨i3, i4⟩ => ?_⟩) (Nat.le_refl _) ?_ ?_
    · rcases at' id b h with ⟨k, s, h1, h2⟩ | h
      · rcases sideGet k s h1 with ⟨rfl, rfl⟩ | ⟨_, h3⟩
        · exact .inr (at_get (lfind id b h2).1)
        · have hk : k < n := by rw [← d.len]; exact (List.getElem?_eq_some_iff.1 h3).1
          refine .inl ⟨d.view (mask := 2 ^ n - 1) ?_, rfl⟩
          unfold viewS
          cases hf : findSs rs.side 0 (2 ^ n - 1) id with
          | none => rw [findSs_none hf k s h3 (by rw [Nat.zero_add]; exact full_bit hk)] at h2; cases h2
          | some b'' =>
            obtain ⟨k', s', g1, _, g3⟩ := findSs_some hf
            obtain ⟨c1, c2, _⟩ := d.area k' s' id b'' g1 g3
            obtain ⟨c3, c4, _⟩ := d.area k s id b h3 h2
            have e := area_disj c1 c2 c3 c4
            subst e
            rw [h3] at g1
            injection g1 with g1; injection g1 with g1; subst g1
            rw [h2] at g3; exact g3.symm
      · exact .inl ⟨d.hp_at h, rfl⟩
    · have hsome : (comb n (applyE j o rs v2 (.side l))).at ro id = some b := at_get h
      have hm : (match findSs (rs.side.set j (some l)) 0 (2 ^ n - 1) id with
          | some b => some b
          | none => rs.hp.m.get id) = some b := by
        have h2 := h
        simp only [comb, applyE, addSs_get] at h2
        exact h2
      split at hm
      · rename_i b' hf
        obtain ⟨k, s, h1, _, h3⟩ := findSs_some hf
        have := (area' k s id b' h1 h3).2.2
        unfold Hp.at at this
        split at this
        · cases this
        · exact this
      · exact d.sep id b hm
    · have i1 : rs.hp.nxt ≤ id := i1
      omega
    · show w0.nxt ≤ b0 + j * stride
      omega
    · show hp'.nxt ≤ rs.hp.nxt
      omega
/-- An operation that only looks. -/
theorem DI.look (d : DI w0 F G ro nt n b0 stride dfr ρ0 listed rs a w ρ) (hj : j < n) (hr : Rel w0 F G ro ρ (comb n rs) w') {v2 : V} {x : Value} (hx : VR ρ v2 x) (hd : dstOk nt o.dst = true) :
    DI w0 F G ro nt n b0 stride dfr ρ0 (listed.setIfInBounds j true) (applyE j o rs v2 .keep) (a.put o.dst x) w' ρ :=
  ⟨d.le, hr, TR.put d.tr o.dst hx hd d.nt, by cases o.dst <;> exact d.dr, by rw [size_put]; exact d.nt, d.len, by simpa using d.lsz, fun k hk hlk => d.opn k hk (listed_set d.lsz hj hlk).2, d.area, d.nxt, d.sep, d.base⟩
/-- The heap on which an operation with effects works. -/
def effHp (rs : RS) (mask : Nat) : Hp := ⟨addSs rs.hp.m rs.side 0 mask, rs.hp.nxt, rs.hp.lim⟩
theorem effHp_at {mask id : Nat} : (effHp rs mask).at ro id = viewS ro rs mask id := by
  simp only [effHp, viewS, Hp.at, addSs_get]
  cases findSs rs.side 0 mask id <;> rfl
theorem DI.own_sep (d : DI w0 F G ro nt n b0 stride dfr ρ0 listed rs a w ρ) {mask : Nat} : (∀ id b, (effHp rs mask).at ro id = some b → (comb n rs).at ro id = some b) ∧ (∀ id b, (effHp rs mask).m.get id = some b → ro id = none) ∧ (∀ id b, (effHp rs mask).m.get id = some b → ∃ b', (comb n rs).m.get id = some b') := by
  have h1 : ∀ id b, (effHp rs mask).at ro id = some b → (comb n rs).at ro id = some b := fun id b h => d.view (mask := mask) (by rw [← effHp_at]; exact h)
  have h2 : ∀ id b, (effHp rs mask).m.get id = some b → ro id = none := fun id b h => by
    simp only [effHp, addSs_get] at h
    split at h
    · rename_i b' hf
      obtain ⟨k, s, q1, _, q3⟩ := findSs_some hf
      have := (d.area k s id b' q1 q3).2.2
      unfold Hp.at at this
      split at this
      · cases this
      · exact this
    · exact d.sep id b h
  refine ⟨h1, h2, fun id b h => ?_⟩
  have hs := h1 id b (at_get h)
  rcases at_split hs with q | ⟨_, q⟩
  · exact ⟨b, q⟩
  · rw [h2 id b h] at q; cases q
theorem DI.eff (d : DI w0 F G ro nt n b0 stride dfr ρ0 listed rs a w ρ) (hj : j < n) {mask : Nat} {hp' : Hp} {v2 : V} {x : Value} (hle : ρ.le ρ')
    (h' : Rel ⟨w, ρ, (effHp rs mask).nxt⟩ (OwnB ρ (effHp rs mask)) G ro ρ' hp' w') (hx : VR ρ' v2 x) (hd : dstOk nt o.dst = true) :
    DI w0 F G ro nt n b0 stride dfr ρ0 (listed.setIfInBounds j true) (applyE j o rs v2 (.heap hp' mask)) (a.put o.dst x) w' ρ' := by
  obtain ⟨s1, s2, s3⟩ := d.own_sep (mask := mask)
  have hnx := d.nxt
  have hb := d.base
  have hle0 : rs.hp.nxt ≤ hp'.nxt := h'.le0
  have areaHp' : ∀ (k : Nat) (s : Side) (id : Nat) (b : Blk), rs.side[k]? = some (some s) → Nat.testBit mask k = false → findS s id = some b → (comb n rs).at ro id = some b ∧ (effHp rs mask).m.get id = none ∧ ro id = none ∧ hp'.m.get id = none := by
    intro k s id b hk hm hf
    obtain ⟨a1, a2, a3⟩ := d.area k s id b hk hf
    have hkn : k < n := by rw [← d.len]; exact (List.getElem?_eq_some_iff.1 hk).1
    have hro : ro id = none ∧ rs.hp.m.get id = none := by
      unfold Hp.at at a3
      split at a3
      · cases a3
      · rename_i hg; exact ⟨a3, hg⟩
    have hcomb : (comb n rs).at ro id = some b := by
      refine d.view (mask := 2 ^ n - 1) ?_
      unfold viewS
      cases hf2 : findSs rs.side 0 (2 ^ n - 1) id with
      | none => rw [findSs_none hf2 k s hk (by rw [Nat.zero_add]; exact full_bit hkn)] at hf; cases hf
      | some b'' =>
        obtain ⟨k', s', g1, _, g3⟩ := findSs_some hf2
        obtain ⟨c1, c2, _⟩ := d.area k' s' id b'' g1 g3
        have e := area_disj c1 c2 a1 a2
        subst e
        rw [hk] at g1
        injection g1 with g1; injection g1 with g1; subst g1
        rw [hf] at g3; exact g3.symm
    have hown : (effHp rs mask).m.get id = none := by
      simp only [effHp, addSs_get]
      cases hf2 : findSs rs.side 0 mask id with
      | none => exact hro.2
      | some b'' =>
        obtain ⟨k', s', g1, g2, g3⟩ := findSs_some hf2
        obtain ⟨c1, c2, _⟩ := d.area k' s' id b'' g1 g3
        have e := area_disj c1 c2 a1 a2
        subst e
        rw [Nat.zero_add, hm] at g2; cases g2
    refine ⟨hcomb, hown, hro.1, ?_⟩
    cases hg : hp'.m.get id with
    | none => rfl
    | some b' =>
      exfalso
      obtain ⟨B', t', o', e1, e2, _, e4⟩ := h'.blk id b' (at_get hg)
      obtain ⟨B, t, o, f1, f2, _, _⟩ := d.rel.blk id b hcomb
      have := hle _ _ f1
      rw [e1] at this
      obtain ⟨rfl, rfl⟩ := Prod.mk.inj (Option.some.inj this)
      have hlt := lt_of_heap f2
      rcases e4.resolve_left (by rw [hg]; simp) with ⟨id0, b0', t0', g1, g2⟩ | e4
      · have := (d.rel.inj _ _ _ _ _ _ _ hcomb (s1 id0 b0' (at_get g1)) f1 g2).resolve_right (fun q => by obtain ⟨b2, hb2⟩ := s3 id0 b0' g1; rw [hb2] at q; cases q.2)
        subst this
        rw [hown] at g1; cases g1
      · have : w.heap.size ≤ B' := e4
        omega
  have at' : ∀ id b, (comb n (applyE j o rs v2 (.heap hp' mask))).at ro id = some b → (∃ k s, rs.side[k]? = some (some s) ∧ Nat.testBit mask k = false ∧ findS s id = some b) ∨ hp'.at ro id = some b := fun id b h => by
    have e : (comb n (applyE j o rs v2 (.heap hp' mask))).at ro id = match findSs (clearS rs.side 0 mask) 0 (2 ^ n - 1) id with
        | some b => some b
        | none => hp'.at ro id := by
      simp only [comb, applyE, Hp.at, addSs_get]
      cases findSs (clearS rs.side 0 mask) 0 (2 ^ n - 1) id <;> rfl
    rw [e] at h
    split at h
    · rename_i b' hf
      injection h with h; subst h
      obtain ⟨k, s, h1, _, h3⟩ := findSs_some hf
      obtain ⟨h4, h5⟩ := clearS_get h1
      exact .inl ⟨k, s, h4, by rw [Nat.zero_add] at h5; exact h5, h3⟩
    · exact .inr h
  refine ⟨d.le.trans hle, ?_, TR.put (TR.mono hle d.tr) o.dst hx hd d.nt, by cases o.dst <;> exact DR.mono hle d.dr, by rw [size_put]; exact d.nt, by simp [applyE, clearS_length, d.len], by simpa using d.lsz, fun k hk hlk => ?_, fun k s id b hk hs => ?_, ?_, h'.sep, d.base⟩
  · refine Rel.after (own := effHp rs mask) d.rel s1 s2 s3 hle h' (fun id b h => ?_) (fun id b h => ?_) (fun id i1 i2 => ⟨?_, i2, fun ⟨_, i4⟩ => ?_⟩) hle0 ?_ (Nat.le_refl _)
    · rcases at' id b h with ⟨k, s, h1, h2, h3⟩ | h
      · obtain ⟨q1, q2, _⟩ := areaHp' k s id b h1 h2 h3
        exact .inl ⟨q1, q2⟩
      · exact .inr h
    · simp only [comb, applyE, addSs_get] at h
      split at h
      · rename_i b' hf
        obtain ⟨k, s, h1, _, h3⟩ := findSs_some hf
        obtain ⟨h4, h5⟩ := clearS_get h1
        exact (areaHp' k s id b' h4 (by rw [Nat.zero_add] at h5; exact h5) h3).2.2.1
      · exact h'.sep id b h
    · have i1 : hp'.nxt ≤ id := i1
      show rs.hp.nxt ≤ id
      omega
    · have i1 : hp'.nxt ≤ id := i1
      omega
    · show w0.nxt ≤ rs.hp.nxt
      omega
  · obtain ⟨hne, hlk'⟩ := listed_set d.lsz hj hlk
    obtain ⟨o1, o2⟩ := d.opn k hk hlk'
    refine ⟨clearS_none o1, fun id i1 i2 => ?_⟩
    cases hr : ρ' id with
    | none => rfl
    | some y =>
      rcases h'.ren id y hr with k1 | k1
      · have : ρ id = some y := k1
        rw [o2 id i1 i2] at this; cases this
      · have k2 : rs.hp.nxt ≤ id := k1.1
        have := area_top (b0 := b0) (s := stride) hk
        omega
  · obtain ⟨h4, h5⟩ := clearS_get hk
    rw [Nat.zero_add] at h5
    obtain ⟨a1, a2, _⟩ := d.area k s id b h4 hs
    obtain ⟨_, _, q3, q4⟩ := areaHp' k s id b h4 h5 hs
    refine ⟨a1, a2, ?_⟩
    simp [applyE, Hp.at, q4, q3]
  · show b0 + n * stride ≤ hp'.nxt
    omega
end
end Go.Ev

/- Own text: a region whose order is open. -/
namespace Go.Ev
section
variable {P : Program} {E : Env} {call : CallF} {w0 : Base} {F : Nat → Prop} {ro : RO} {nt n b0 stride : Nat} {dfr : List ADef} {ρ0 ρ : Ren} {listed : Array Bool} {rs : RS} {a : Act} {w : World} {ops : Array Oper} {j : Nat} {o : Oper}
/-- One operation on a heap of its own. -/
theorem compOp_sound (hE : EnvOK P E) (hc : CallOK P E.G call) {w1 : Base} {F1 : Nat → Prop} {view : RO} {own : Hp} {f : V → Hp → T (V × Eff)} {tmps : Tr V} {q : V × Eff} (hr : Rel w1 F1 E.G view ρ own w) (ht : TR ρ tmps a.tmps)
    (h : (compOp E call view own f tmps o).run = some q) {K : Act → World → Prop} {Q : Exit → Act → World → Prop}
    (hK : ∀ v hp' x w' ρ', (f v hp').run = some q → ρ.le ρ' → Rel w1 F1 E.G view ρ' hp' w' → VR ρ' v x → K (a.put o.dst x) w') : o.wp P a w K Q := by
  obtain ⟨res, h1, h2⟩ := T.run_bind_some h
  have hres := evOp_sound (P := P) hE.ty hr ht hr.glob h1
  unfold Oper.wp
  cases res with
  | val v hp' =>
    obtain ⟨x, w', ρ', e1, e2, e3, e4⟩ := hres
    rw [e1]
    exact hK v hp' x w' ρ' h2 e2 e4 e3
  | skip hp' =>
    obtain ⟨w', ρ', e1, e2, e3⟩ := hres
    rw [e1]
    exact hK .any hp' undef w' ρ' h2 e2 e3 trivial
  | enter f' args =>
    obtain ⟨l, e1, e2⟩ := hres
    obtain ⟨q', h3, h4⟩ := T.run_bind_some h2
    obtain ⟨g1, g2⟩ := hc _ _ _ _ _ h3 w1 F1 ρ w l hr e2
    rw [e1, g1 w]
    refine g2.mono fun e w' he => ?_
    obtain ⟨ρ', k1, k2, k3⟩ := he
    obtain ⟨en, hp'⟩ := q'
    cases en with
    | ret v =>
      obtain ⟨x, rfl, hx⟩ := k3
      exact hK v hp' x w' ρ' h4 k1 k2 hx
    | pan v => cases h4
  | defer fn cap args => cases h2
  | pan v => cases h2
theorem stepO_sound (hE : EnvOK P E) (hc : CallOK P E.G call) {t0 : Tr V} {mask : Nat} {c : Cls} {rs' : RS} (ho : ops[j]? = some o) (d : DI w0 F E.G ro nt n b0 stride dfr ρ0 listed rs a w ρ) (hj : j < n) (hl : listed.getD j true = false)
    (h : (stepO E ro call nt ops.toList t0 b0 stride j o mask c rs).run = some rs') {K : Act → World → Prop} {Q : Exit → Act → World → Prop}
    (hK : ∀ a' w' ρ', DI w0 F E.G ro nt n b0 stride dfr ρ0 (listed.setIfInBounds j true) rs' a' w' ρ' → K a' w') : wpOp P ops Q j K a w := by
  obtain ⟨⟨v2, e⟩, h1, h2⟩ := T.run_bind_some h
  injection h2 with h2; subst h2
  unfold wpOp
  simp only [ho]
  unfold compG at h1
  split at h1
  · cases h1
  · rename_i hg
    obtain ⟨hd, hw⟩ := guardD_sound (st := ⟨rs.tmps, [], rs.hp⟩) d.tr hg
    injection h1 with h1; injection h1 with h3 h4; subst h3; subst h4
    rw [hw]
    exact hK _ _ ρ (d.look hj d.rel ⟨[], rfl, rfl⟩ hd)
  · rename_i hg
    obtain ⟨hd, hw⟩ := guardD_sound (st := ⟨rs.tmps, [], rs.hp⟩) d.tr hg
    rw [hw]
    refine .inl ?_
    obtain ⟨⟨v, e'⟩, h3, h4⟩ := T.run_bind_some h1
    obtain ⟨v', h5, h6⟩ := T.run_bind_some h4
    injection h6 with h6; injection h6 with h7 h8; subst h7; subst h8
    have hconc : ∀ {ρ' : Ren} {x : Value}, VR ρ' v x → VR ρ' v' x := fun hx => conc_sound h5 hx
    have vOf : ∀ {base lim : Nat} {v1 : V} {hp : Hp} {q : V × Eff}, (newC base lim v1 hp).run = some q → q.1 = v1 := fun h => by
      unfold newC at h
      split at h
      · injection h with h; subst h; rfl
      · split at h <;> try (cases h; done)
        split at h <;> try (cases h; done)
        injection h with h; subst h; rfl
    have area : ∀ {view : RO}, (∀ id b, view id = some b → (comb n rs).at ro id = some b) → (compOp E call view (areaHp b0 stride j) (newC (b0 + j * stride) (b0 + j * stride + stride)) rs.tmps o).run = some (v, e') → o.wp P a w K Q := by
      intro view hv hcomp
      have hr : Rel ⟨w, ρ, (areaHp b0 stride j).nxt⟩ (OwnB ρ (areaHp b0 stride j)) E.G view ρ (areaHp b0 stride j) w := d.rel.rebase (fun id b h => hv id b h) (fun id b h => by cases h) (fun id i1 i2 => (d.opn j hj hl).2 id i1 i2) (fun id b h => by cases h)
      refine compOp_sound hE hc hr d.tr hcomp fun v1 hp' x w' ρ' hf hle hr' hx => ?_
      have e1 := vOf hf
      simp only at e1; subst e1
      have hnew := d.new (o := o) (q := (v, e')) hj hl hv hle hr' (hconc hx) hf hd
      exact hK _ _ ρ' hnew
    cases c <;> simp only [compC] at h3
    case pure => exact area (fun id b h => d.ro_at h) h3
    case new => exact area (fun id b h => d.view h) h3
    case read =>
      have hr : Rel ⟨w, ρ, rs.hp.nxt⟩ (OwnB ρ ⟨.lf, rs.hp.nxt, rs.hp.lim⟩) E.G (viewS ro rs mask) ρ ⟨.lf, rs.hp.nxt, rs.hp.lim⟩ w := d.rel.rebase (own := ⟨.lf, rs.hp.nxt, rs.hp.lim⟩) (fun id b h => d.view h) (fun id b h => by cases h) (fun id i1 i2 => d.rel.fresh id i1 i2) (fun id b h => by cases h)
      refine compOp_sound hE hc hr d.tr h3 fun v1 hp' x w' ρ' hf hle hr' hx => ?_
      unfold readC at hf
      split at hf <;> try (cases hf; done)
      rename_i hu
      injection hf with hf; injection hf with hf1 hf2; subst hf1; subst hf2
      have hx' : VR ρ v1 x := under_mono (fun id y hy hlt => by
        rcases hr'.ren id y hy with k | k
        · exact k
        · have : rs.hp.nxt ≤ id := k.1
          omega) v1 x hu hx
      exact hK _ _ ρ (d.look hj (d.rel.looked (own := ⟨.lf, rs.hp.nxt, rs.hp.lim⟩) (view := viewS ro rs mask) (fun id b h => d.view h) (fun _ => rfl) hr') (hconc hx') hd)
    case eff =>
      obtain ⟨s1, s2, s3⟩ := d.own_sep (mask := mask)
      have hr : Rel ⟨w, ρ, (effHp rs mask).nxt⟩ (OwnB ρ (effHp rs mask)) E.G ro ρ (effHp rs mask) w := d.rel.rebase s1 s2 (fun id i1 i2 => d.rel.fresh id i1 i2) s3
      refine compOp_sound hE hc hr d.tr h3 fun v1 hp' x w' ρ' hf hle hr' hx => ?_
      injection hf with hf; injection hf with hf1 hf2; subst hf1; subst hf2
      exact hK _ _ ρ' (d.eff hj hle hr' (hconc hx) hd)
    case heff H =>
      obtain ⟨s1, s2, s3⟩ := d.own_sep (mask := mask)
      have hr : Rel ⟨w, ρ, (effHp rs mask).nxt⟩ (OwnB ρ (effHp rs mask)) E.G ro ρ (effHp rs mask) w := d.rel.rebase s1 s2 (fun id i1 i2 => d.rel.fresh id i1 i2) s3
      have hsub : ∀ id b, (hideB (effHp rs mask).m H).get id = some b → (effHp rs mask).m.get id = some b := fun id b h => by
        rw [hideB_get] at h
        split at h
        · cases h
        · exact h
      have u1 : ∀ id b, Hp.at ro ⟨hideB (effHp rs mask).m H, rs.hp.nxt, rs.hp.lim⟩ id = some b → (effHp rs mask).at ro id = some b := fun id b h => by
        rcases at_split h with h1 | ⟨_, h1⟩
        · exact at_get (hsub id b h1)
        · exact hr.at_ro' h1
      have u2 : ∀ id b, (hideB (effHp rs mask).m H).get id = some b → ro id = none := fun id b h => s2 id b (hsub id b h)
      have u3 : ∀ id b, (hideB (effHp rs mask).m H).get id = some b → ∃ b', (effHp rs mask).m.get id = some b' := fun id b h => ⟨b, hsub id b h⟩
      have hr2 : Rel ⟨w, ρ, rs.hp.nxt⟩ (OwnB ρ ⟨hideB (effHp rs mask).m H, rs.hp.nxt, rs.hp.lim⟩) E.G ro ρ ⟨hideB (effHp rs mask).m H, rs.hp.nxt, rs.hp.lim⟩ w := hr.rebase (own := ⟨hideB (effHp rs mask).m H, rs.hp.nxt, rs.hp.lim⟩) u1 u2 (fun id i1 i2 => d.rel.fresh id i1 i2) u3
      refine compOp_sound hE hc hr2 d.tr h3 fun v1 hp' x w' ρ' hf hle hr' hx => ?_
      injection hf with hf; injection hf with hf1 hf2; subst hf1; subst hf2
      have hle0 : rs.hp.nxt ≤ hp'.nxt := hr'.le0
      have hr3 : Rel ⟨w, ρ, (effHp rs mask).nxt⟩ (OwnB ρ (effHp rs mask)) E.G ro ρ' ⟨backB rs.hp.m hp'.m H, hp'.nxt, rs.hp.lim⟩ w' := by
        have hback : ∀ id b, (backB rs.hp.m hp'.m H).get id = some b → (memN id H = true ∧ rs.hp.m.get id = some b) ∨ (memN id H = false ∧ hp'.m.get id = some b) := fun id b h => by
          rw [backB_get] at h
          split at h
          · rename_i hm; exact .inl ⟨hm, h⟩
          · rename_i hm; exact .inr ⟨by simpa using hm, h⟩
        refine Rel.after (own := ⟨hideB (effHp rs mask).m H, rs.hp.nxt, rs.hp.lim⟩) hr u1 u2 u3 hle hr' (fun id b h => ?_) (fun id b h => ?_) (fun id i1 i2 => ⟨Nat.le_trans hle0 i1, i2, fun ⟨_, i4⟩ => absurd (show id < hp'.nxt from i4) (Nat.not_lt.2 i1)⟩) hle0 (Nat.le_refl _) (Nat.le_refl _)
        · rcases at_split h with h1 | ⟨h0, h1⟩
          · rcases hback id b h1 with ⟨g1, g2⟩ | ⟨_, g2⟩
            · have hown : (hideB (effHp rs mask).m H).get id = none := by rw [hideB_get, if_pos g1]
              cases hf : findSs rs.side 0 mask id with
              | none =>
                refine .inl ⟨at_get ?_, hown⟩
                simp only [effHp, addSs_get, hf]; exact g2
              | some b'' =>
                exfalso
                obtain ⟨k', s', q1, _, q3⟩ := findSs_some hf
                have := (d.area k' s' id b'' q1 q3).2.2
                rw [at_get g2] at this; cases this
            · exact .inr (at_get g2)
          · by_cases hm : memN id H = true
            · have : (hideB (effHp rs mask).m H).get id = none := by rw [hideB_get, if_pos hm]
              exact .inl ⟨hr.at_ro' h1, this⟩
            · refine .inr ?_
              have h0 : (backB rs.hp.m hp'.m H).get id = none := h0
              rw [backB_get, if_neg hm] at h0
              simp only [Hp.at, h0, h1]
        · rcases hback id b h with ⟨_, g2⟩ | ⟨_, g2⟩
          · exact d.sep id b g2
          · exact hr'.sep id b g2
      have hfin := d.eff (o := o) hj hle hr3 (hconc hx) hd
      exact hK _ _ ρ' hfin
    case hload b =>
      split at h3 <;> try (cases h3; done)
      rename_i hb
      have hblt := Nat.le_of_ble_eq_true hb
      unfold dloadC at h3
      split at h3 <;> try (cases h3; done)
      rename_i ty ad hop
      split at h3 <;> try (cases h3; done)
      rename_i xv hxv
      split at h3 <;> try (cases h3; done)
      rename_i hptr
      obtain ⟨v1, g1, g2⟩ := T.run_bind_some h3
      injection g2 with g2; injection g2 with g3 g4; subst g3; subst g4
      have hheap : rs.hp.at ro b = (comb n rs).at ro b := by
        have e : (comb n rs).at ro b = match findSs rs.side 0 (2 ^ n - 1) b with
            | some b => some b
            | none => rs.hp.at ro b := by
          simp only [comb, Hp.at, addSs_get]
          cases findSs rs.side 0 (2 ^ n - 1) b <;> rfl
        rw [e]
        cases hf : findSs rs.side 0 (2 ^ n - 1) b with
        | none => rfl
        | some b'' =>
          obtain ⟨k', s', q1, _, q3⟩ := findSs_some hf
          obtain ⟨c1, _, _⟩ := d.area k' s' b b'' q1 q3
          omega
      rw [loadV_congr hptr hheap] at g1
      obtain ⟨x, e1, e2⟩ := loadV_sound (P := P) hE.ty d.rel (opV_sound d.tr d.rel.glob hxv) g1
      have hrun : (execOp a.eval o).run P w = .ok (.value x) w := by
        unfold execOp; rw [hop]; exact run_v e1
      unfold Oper.wp
      rw [hrun]
      exact hK _ _ ρ (d.look hj d.rel (hconc e2) hd)
    case dload t =>
      split at h3 <;> try (cases h3; done)
      rename_i b hb
      unfold dloadC at h3
      split at h3 <;> try (cases h3; done)
      rename_i ty ad hop
      split at h3 <;> try (cases h3; done)
      rename_i xv hxv
      split at h3 <;> try (cases h3; done)
      rename_i hptr
      obtain ⟨v1, g1, g2⟩ := T.run_bind_some h3
      injection g2 with g2; injection g2 with g3 g4; subst g3; subst g4
      have hblt : b < b0 := by
        unfold blkOf at hb
        split at hb <;> try contradiction
        split at hb <;> try contradiction
        rename_i hble
        injection hb with hb; subst hb
        exact Nat.le_of_ble_eq_true hble
      have hheap : rs.hp.at ro b = (comb n rs).at ro b := by
        have e : (comb n rs).at ro b = match findSs rs.side 0 (2 ^ n - 1) b with
            | some b => some b
            | none => rs.hp.at ro b := by
          simp only [comb, Hp.at, addSs_get]
          cases findSs rs.side 0 (2 ^ n - 1) b <;> rfl
        rw [e]
        cases hf : findSs rs.side 0 (2 ^ n - 1) b with
        | none => rfl
        | some b'' =>
          obtain ⟨k', s', q1, _, q3⟩ := findSs_some hf
          obtain ⟨c1, _, _⟩ := d.area k' s' b b'' q1 q3
          omega
      rw [loadV_congr hptr hheap] at g1
      obtain ⟨x, e1, e2⟩ := loadV_sound (P := P) hE.ty d.rel (opV_sound d.tr d.rel.glob hxv) g1
      have hrun : (execOp a.eval o).run P w = .ok (.value x) w := by
        unfold execOp; rw [hop]; exact run_v e1
      unfold Oper.wp
      rw [hrun]
      exact hK _ _ ρ (d.look hj d.rel (hconc e2) hd)
    case dstore t =>
      split at h3 <;> try (cases h3; done)
      rename_i b hb
      unfold dstoreC at h3
      split at h3 <;> try (cases h3; done)
      rename_i ty ad y hop
      split at h3 <;> try (cases h3; done)
      rename_i xv hxv
      split at h3 <;> try (cases h3; done)
      rename_i hptr
      split at h3 <;> try (cases h3; done)
      rename_i yv hyv
      obtain ⟨hp', g1, g2⟩ := T.run_bind_some h3
      injection g2 with g2; injection g2 with g3 g4; subst g3; subst g4
      obtain ⟨s1, s2, s3⟩ := d.own_sep (mask := 0)
      have e0 : ∀ (l : List (Option Side)) (m : Tr Blk) (i : Nat), addSs m l i 0 = m := by
        intro l
        induction l with
        | nil => intro m i; rfl
        | cons s l ih => intro m i; simp only [addSs, Nat.zero_testBit, ih]
      have eOwn : effHp rs 0 = rs.hp := by simp only [effHp, e0]
      have hr : Rel ⟨w, ρ, (effHp rs 0).nxt⟩ (OwnB ρ (effHp rs 0)) E.G ro ρ (effHp rs 0) w := d.rel.rebase s1 s2 (fun id i1 i2 => d.rel.fresh id i1 i2) s3
      have g1' : (storeV E.ti (effHp rs 0) ty xv yv).run = some hp' := by rw [eOwn]; exact g1
      obtain ⟨w', q1, q2⟩ := storeV_sound (P := P) hE.ty hr (opV_sound d.tr d.rel.glob hxv) (opV_sound d.tr d.rel.glob hyv) g1'
      have hrun : (execOp a.eval o).run P w = .ok .skip w' := by
        unfold execOp; rw [hop]
        simp only [Sem.run_bind, q1, Result.andThen_ok, Sem.run_pure]
      unfold Oper.wp
      rw [hrun]
      exact hK _ _ ρ (d.eff hj (Ren.le.refl _) q2 (hconc (x := undef) trivial) hd)
/-! ### the whole region -/
theorem Rel.shift {ρ : Ren} {hp : Hp} (h : Rel w0 F E.G ro ρ hp w) (k : Nat) : Rel w0 F E.G ro ρ ⟨hp.m, hp.nxt + k, hp.lim⟩ w :=
  ⟨h.blk, h.inj, h.sep, fun id h1 h2 => h.fresh id (by have h1 : hp.nxt + k ≤ id := h1; omega) h2, h.frame, h.size, h.tape, h.os, h.output, h.glob, fun id x hx => (h.ren id x hx).imp (fun h => h) fun ⟨h1, h2⟩ => ⟨h1, by show id < hp.nxt + k; omega⟩, by have := h.le0; show w0.nxt ≤ hp.nxt + k; omega, h.fz.keep, h.fz.sep, h.fz.new⟩
theorem Rel.same {ρ : Ren} {hp hp' : Hp} (h : Rel w0 F E.G ro ρ hp w) (h1 : ∀ id, hp'.m.get id = hp.m.get id) (h2 : hp'.nxt = hp.nxt) (h3 : hp'.lim = hp.lim) : Rel w0 F E.G ro ρ hp' w := by
  have hat : ∀ id, hp'.at ro id = hp.at ro id := fun id => by unfold Hp.at; rw [h1]
  refine ⟨fun id b hb => ?_, fun i j b c B t t' hi hj e1 e2 => by rw [h1, h1]; exact h.inj i j b c B t t' (by rw [← hat]; exact hi) (by rw [← hat]; exact hj) e1 e2, fun id b hb => h.sep id b (by rw [← h1]; exact hb), fun id i1 i2 => h.fresh id (by rw [← h2]; exact i1) (by rw [← h3]; exact i2), h.frame, h.size, h.tape, h.os, h.output, h.glob, fun id x hx => by rw [h2]; exact h.ren id x hx, by rw [h2]; exact h.le0, h.fz.keep, fun id b B t g1 g2 => h.fz.sep id b B t (by rw [← h1]; exact g1) g2, h.fz.new⟩
  rw [h1]
  exact h.blk id b (by rw [← hat]; exact hb)
/-- The step of a region as a function. -/
def stepF (E : Env) (ro : RO) (call : CallF) (nt : Nat) (ops : Array Oper) (cl : List Cls) (t0 : Tr V) (b0 stride : Nat) (j : Nat) (rs : RS) : Option RS := (stepR E ro call nt ops.toList (masksOf ops) cl t0 b0 stride j rs).run
theorem runR_runL {cl : List Cls} {t0 : Tr V} : ∀ (n j : Nat) (rs : RS), (runR E ro call nt ops.toList (masksOf ops) cl t0 b0 stride j n rs).run = runL (stepF E ro call nt ops cl t0 b0 stride) (List.range' j n) rs
  | 0, _, _ => rfl
  | n + 1, j, rs => by
    simp only [runR, List.range'_succ, runL, T.run_bind, stepF]
    congr 1
    funext rs'
    exact runR_runL n (j + 1) rs'
theorem stepF_some {cl : List Cls} {t0 : Tr V} {rs rs' : RS} (h : stepF E ro call nt ops cl t0 b0 stride j rs = some rs') : ∃ o c, ops[j]? = some o ∧ cl[j]? = some c ∧ (masksOf ops)[j]? = some ((masksOf ops).getD j 0) ∧ (stepO E ro call nt ops.toList t0 b0 stride j o ((masksOf ops).getD j 0) c rs).run = some rs' := by
  unfold stepF stepR at h
  split at h <;> try (cases h; done)
  rename_i o ho
  split at h <;> try (cases h; done)
  rename_i m hm
  split at h <;> try (cases h; done)
  rename_i c hc
  have e : (masksOf ops).getD j 0 = m := by rw [List.getD_eq_getElem?_getD, hm]; rfl
  exact ⟨o, c, by simpa using ho, hc, by rw [e]; exact hm, by rw [e]; exact h⟩
theorem stepF_of {cl : List Cls} {t0 : Tr V} {rs rs' : RS} {o : Oper} {c : Cls} (h1 : ops[j]? = some o) (h2 : cl[j]? = some c) (h3 : (masksOf ops)[j]? = some ((masksOf ops).getD j 0)) (h : (stepO E ro call nt ops.toList t0 b0 stride j o ((masksOf ops).getD j 0) c rs).run = some rs') : stepF E ro call nt ops cl t0 b0 stride j rs = some rs' := by
  unfold stepF stepR
  have h1' : ops.toList[j]? = some o := by simpa using h1
  rw [h1', h2, h3]
  exact h
/-! ### panics -/
theorem compOpP_inl {view : RO} {own : Hp} {f : V → Hp → T (V × Eff)} {p : V → Hp → T PN} {tmps : Tr V} {q : V × Eff} (h : (compOpP E call view own f p tmps o).run = some (.inl q)) : (compOp E call view own f tmps o).run = some q := by
  obtain ⟨r, h1, h2⟩ := T.run_bind_some h
  unfold compOp
  rw [T.run_bind_of h1]
  unfold outRP at h2
  unfold outR
  have key : ∀ {t : T (V × Eff)}, (t.bind fun q => T.ret (Sum.inl q : Sum (V × Eff) PN)).run = some (.inl q) → t.run = some q := fun {t} h => by
    obtain ⟨q', g1, g2⟩ := T.run_bind_some h
    injection g2 with g2; injection g2 with g2; subst g2; exact g1
  split at h2
  · exact key h2
  · exact key h2
  · obtain ⟨r', g1, g2⟩ := T.run_bind_some h2
    rw [T.run_bind_of g1]
    unfold outCP at g2
    unfold outC
    split at g2
    · exact key g2
    · obtain ⟨q', _, g4⟩ := T.run_bind_some g2
      injection g4 with g4; cases g4
  · cases h2
theorem compGP_inl {t0 : Tr V} {mask : Nat} {c : Cls} {q : V × Eff} (h : (compGP E ro call nt ops.toList t0 b0 stride j o mask c rs).run = some (.inl q)) : (compG E ro call nt ops.toList t0 b0 stride j o mask c rs).run = some q := by
  unfold compGP at h
  unfold compG
  split at h
  · cases h
  · injection h with h; injection h with h; subst h; rfl
  · obtain ⟨r, h1, h2⟩ := T.run_bind_some h
    cases r with
    | inr p => injection h2 with h2; cases h2
    | inl q' =>
      obtain ⟨v, h3, h4⟩ := T.run_bind_some h2
      injection h4 with h4; injection h4 with h4; subst h4
      have hc : (compC E ro call t0 b0 stride j o mask c rs).run = some q' := by
        have other : ((compC E ro call t0 b0 stride j o mask c rs).bind fun q => T.ret (Sum.inl q : Sum (V × Eff) PN)).run = some (.inl q') → (compC E ro call t0 b0 stride j o mask c rs).run = some q' := fun h => by
          obtain ⟨q'', g1, g2⟩ := T.run_bind_some h
          injection g2 with g2; injection g2 with g2; subst g2; exact g1
        cases c <;> first | exact other h1 | exact compOpP_inl h1
      show ((compC E ro call t0 b0 stride j o mask c rs).bind fun q => (conc ops.toList j q.1).bind fun v => T.ret (v, q.2)).run = _
      rw [T.run_bind_of hc, T.run_bind_of h3]; rfl
/-- Operations without effects do not change what a call reckons. -/
theorem compGP_light {i : Nat} {oi : Oper} {t0 : Tr V} {mj : Nat} {cj : Cls} {v : V} {e : Eff} (he : e = .keep ∨ ∃ l, e = .side l) (hcj : isEff cj = true ∨ cj = .read) (hns : ∀ t, cj ≠ .dstore t) (hl : ∀ d, oi.dst = some d → d ∉ o.looksAt ops) (hm : Nat.testBit mj i = false) :
    compGP E ro call nt ops.toList t0 b0 stride j o mj cj (applyE i oi rs v e) = compGP E ro call nt ops.toList t0 b0 stride j o mj cj rs := by
  have hT : ∀ d ∈ o.looksAt ops, (applyE i oi rs v e).tmps.get d = rs.tmps.get d := fun d hd' => by
    rw [applyE_tmps, setT_get fun h => hl d h hd']
  have hm0 : Nat.testBit mj (0 + i) = false := by rw [Nat.zero_add]; exact hm
  have light : (applyE i oi rs v e).hp = rs.hp ∧ viewS ro (applyE i oi rs v e) mj = viewS ro rs mj ∧ addSs rs.hp.m (applyE i oi rs v e).side 0 mj = addSs rs.hp.m rs.side 0 mj := by
    rcases he with rfl | ⟨l, rfl⟩
    · exact ⟨rfl, rfl, rfl⟩
    · refine ⟨rfl, ?_, addSs_set _ _ _ _ hm0⟩
      funext id
      simp only [viewS, applyE, findSs_set _ _ _ hm0]
  obtain ⟨h1, h2, h3⟩ := light
  have hevop : ∀ (view : RO) (own : Hp) f p, compOpP E call view own f p (applyE i oi rs v e).tmps o = compOpP E call view own f p rs.tmps o := fun view own f p => by
    unfold compOpP; rw [evOp_congr hT]
  unfold compGP
  rw [guardD_congr hT]
  split <;> try rfl
  congr 1
  cases cj <;> simp only [isEff, Bool.false_eq_true, reduceCtorEq, or_self, or_false, false_or] at hcj
  · unfold compCP; rw [h1, h2]; exact hevop _ _ _ _
  · unfold compCP; rw [h1, h3]; exact hevop _ _ _ _
  · exact absurd rfl (hns _)
  · unfold compCP; rw [h1, h3]; exact hevop _ _ _ _
theorem runRP_inl {cl : List Cls} {t0 : Tr V} : ∀ (n j : Nat) (rs rs' : RS), (runRP E ro call nt ops.toList (masksOf ops) cl t0 b0 stride j n rs).run = some (.inl rs') → (runR E ro call nt ops.toList (masksOf ops) cl t0 b0 stride j n rs).run = some rs'
  | 0, _, _, _, h => by injection h with h; injection h with h; subst h; rfl
  | n + 1, j, rs, rs', h => by
    obtain ⟨q, h1, h2⟩ := T.run_bind_some h
    cases q with
    | inr p => injection h2 with h2; cases h2
    | inl r1 =>
      have hs : (stepR E ro call nt ops.toList (masksOf ops) cl t0 b0 stride j rs).run = some r1 := by
        unfold stepP at h1
        split at h1 <;> try (cases h1; done)
        rename_i o ho
        split at h1 <;> try (cases h1; done)
        rename_i m hm
        split at h1 <;> try (cases h1; done)
        rename_i c hc
        unfold stepR
        simp only [ho, hm, hc]
        obtain ⟨q, g1, g2⟩ := T.run_bind_some h1
        cases q with
        | inr p => injection g2 with g2; cases g2
        | inl q =>
          injection g2 with g2; injection g2 with g2; subst g2
          show (stepO E ro call nt ops.toList t0 b0 stride j o m c rs).run = _
          unfold stepO
          rw [T.run_bind_of (compGP_inl g1)]; rfl
      show ((stepR E ro call nt ops.toList (masksOf ops) cl t0 b0 stride j rs).bind fun rs' => runR E ro call nt ops.toList (masksOf ops) cl t0 b0 stride (j + 1) n rs').run = _
      rw [T.run_bind_of hs]
      exact runRP_inl n (j + 1) r1 rs' h2
/-- What a call that panics leaves. -/
def panF (E : Env) (ro : RO) (call : CallF) (nt : Nat) (ops : Array Oper) (cl : List Cls) (t0 : Tr V) (b0 stride : Nat) (j : Nat) (rs : RS) (p : PN) : Prop := ∃ o c, ops[j]? = some o ∧ cl[j]? = some c ∧ (compGP E ro call nt ops.toList t0 b0 stride j o ((masksOf ops).getD j 0) c rs).run = some (.inr p)
theorem runRP_inr {cl : List Cls} {t0 : Tr V} : ∀ (n j : Nat) (rs : RS) (j' : Nat) (p : PN), (runRP E ro call nt ops.toList (masksOf ops) cl t0 b0 stride j n rs).run = some (.inr (j', p)) →
    j ≤ j' ∧ j' < j + n ∧ ∃ r0, runL (stepF E ro call nt ops cl t0 b0 stride) (List.range' j (j' - j)) rs = some r0 ∧ panF E ro call nt ops cl t0 b0 stride j' r0 p
  | 0, _, _, _, _, h => by injection h with h; cases h
  | n + 1, j, rs, j', p, h => by
    obtain ⟨q, h1, h2⟩ := T.run_bind_some h
    cases q with
    | inr p' =>
      injection h2 with h2; injection h2 with h2; injection h2 with h3 h4; subst h3; subst h4
      refine ⟨Nat.le_refl _, by omega, rs, by simp [runL], ?_⟩
      unfold stepP at h1
      split at h1 <;> try (cases h1; done)
      rename_i o ho
      split at h1 <;> try (cases h1; done)
      rename_i m hm
      split at h1 <;> try (cases h1; done)
      rename_i c hc
      obtain ⟨q, g1, g2⟩ := T.run_bind_some h1
      cases q with
      | inl q => injection g2 with g2; cases g2
      | inr p'' =>
        injection g2 with g2; injection g2 with g2; subst g2
        have e : (masksOf ops).getD j 0 = m := by rw [List.getD_eq_getElem?_getD, hm]; rfl
        exact ⟨o, c, by simpa using ho, hc, by rw [e]; exact g1⟩
    | inl r1 =>
      have hs : stepF E ro call nt ops cl t0 b0 stride j rs = some r1 := by
        have : (runRP E ro call nt ops.toList (masksOf ops) cl t0 b0 stride j 1 rs).run = some (.inl r1) := by
          show ((stepP E ro call nt ops.toList (masksOf ops) cl t0 b0 stride j rs).bind _).run = _
          rw [T.run_bind_of h1]; rfl
        have h5 := runRP_inl 1 j rs r1 this
        obtain ⟨r2, g1, g2⟩ := T.run_bind_some h5
        injection g2 with g2; subst g2
        exact g1
      obtain ⟨k1, k2, r0, k3, k4⟩ := runRP_inr n (j + 1) r1 j' p h2
      refine ⟨by omega, by omega, r0, ?_, k4⟩
      rw [show j' - j = (j' - (j + 1)) + 1 by omega, List.range'_succ]
      simp only [runL, hs, Option.bind_some]
      exact k3
/-- One operation that panics, on a heap of its own. -/
theorem compOpP_pan (hE : EnvOK P E) (hc : CallOK P E.G call) {w1 : Base} {F1 : Nat → Prop} {view : RO} {own : Hp} {f : V → Hp → T (V × Eff)} {p : V → Hp → T PN} {tmps : Tr V} {q : PN} (hr : Rel w1 F1 E.G view ρ own w) (ht : TR ρ tmps a.tmps)
    (h : (compOpP E call view own f p tmps o).run = some (.inr q)) {K : Act → World → Prop} {Q : Exit → Act → World → Prop}
    (hQ : ∀ v hp' x w' ρ', (p v hp').run = some q → ρ.le ρ' → Rel w1 F1 E.G view ρ' hp' w' → VR ρ' v x → Q (.panic [{ v := x, recovered := false }]) a w') : o.wp P a w K Q := by
  obtain ⟨res, h1, h2⟩ := T.run_bind_some h
  have hres := evOp_sound (P := P) hE.ty hr ht hr.glob h1
  have no : ∀ {t : T (V × Eff)}, ¬ (t.bind fun q => T.ret (Sum.inl q : Sum (V × Eff) PN)).run = some (.inr q) := fun {t} h => by
    obtain ⟨q', _, g2⟩ := T.run_bind_some h
    injection g2 with g2; cases g2
  unfold Oper.wp
  cases res with
  | val v hp' => exact absurd h2 no
  | skip hp' => exact absurd h2 no
  | enter f' args =>
    obtain ⟨l, e1, e2⟩ := hres
    obtain ⟨q', h3, h4⟩ := T.run_bind_some h2
    obtain ⟨g1, g2⟩ := hc _ _ _ _ _ h3 w1 F1 ρ w l hr e2
    rw [e1, g1 w]
    refine g2.mono fun e w' he => ?_
    obtain ⟨ρ', k1, k2, k3⟩ := he
    obtain ⟨en, hp'⟩ := q'
    cases en with
    | ret v => exact absurd h4 no
    | pan v =>
      obtain ⟨x, rfl, hx⟩ := k3
      obtain ⟨q'', g3, g4⟩ := T.run_bind_some h4
      injection g4 with g4; injection g4 with g4; subst g4
      exact hQ v hp' x w' ρ' g3 k1 k2 hx
  | defer fn cap args => cases h2
  | pan v => cases h2
/-- Less is known. -/
theorem Rel.less {G : Nat} {ρ : Ren} {hp hp2 : Hp} (h : Rel w0 F G ro ρ hp w) (hn : hp2.nxt = hp.nxt) (hl : hp2.lim = hp.lim) (hb : ∀ id b, hp2.m.get id = some b → hp.m.get id = some b) : Rel w0 F G ro ρ hp2 w := by
  have known : ∀ id b, hp2.at ro id = some b → hp.at ro id = some b := fun id b hk => by
    rcases at_split hk with h1 | ⟨_, h1⟩
    · exact at_get (hb id b h1)
    · exact h.at_ro' h1
  have ne : ∀ k, hp.m.get k = none → hp2.m.get k = none := fun k hk => by
    cases hg : hp2.m.get k with
    | none => rfl
    | some b' => rw [hb k b' hg] at hk; cases hk
  refine ⟨fun id b hk => ?_, fun i j b c B t t' hi hj h1 h2 => (h.inj _ _ _ _ _ _ _ (known _ _ hi) (known _ _ hj) h1 h2).imp (fun e => e) fun q => ⟨ne _ q.1, ne _ q.2⟩, fun id b hk => h.sep _ _ (hb _ _ hk), fun id h1 h2 => h.fresh id (by omega) (by omega), h.frame, h.size, h.tape, h.os, h.output, h.glob, fun id x hx => by rw [hn]; exact h.ren id x hx, by rw [hn]; exact h.le0, h.fz.keep, fun id b B t h1 h2 => h.fz.sep _ _ _ _ (hb _ _ h1) h2, h.fz.new⟩
  obtain ⟨B, t, o, e1, e2, e3, e4⟩ := h.blk id b (known id b hk)
  exact ⟨B, t, o, e1, e2, e3, e4.imp (ne _) (fun q => q)⟩
theorem DI.bare {G : Nat} {rs : RS} {a : Act} {w : World} {ρ : Ren} (d : DI w0 F G ro nt n b0 stride dfr ρ0 listed rs a w ρ) : Rel w0 F G ro ρ rs.hp w := by
  refine d.rel.less rfl rfl fun id b h => ?_
  show (addSs rs.hp.m rs.side 0 (2 ^ n - 1)).get id = some b
  rw [addSs_get]
  cases hf : findSs rs.side 0 (2 ^ n - 1) id with
  | none => exact h
  | some b'' =>
    exfalso
    obtain ⟨k', s', q1, _, q3⟩ := findSs_some hf
    have := (d.area k' s' id b'' q1 q3).2.2
    rw [at_get h] at this; cases this
theorem panO_sound (hE : EnvOK P E) (hc : CallOK P E.G call) {t0 : Tr V} {mask : Nat} {c : Cls} {p : PN} (ho : ops[j]? = some o) (d : DI w0 F E.G ro nt n b0 stride dfr ρ0 listed rs a w ρ) (hj : j < n)
    (h : (compGP E ro call nt ops.toList t0 b0 stride j o mask c rs).run = some (.inr p)) {K : Act → World → Prop} {Q : Exit → Act → World → Prop}
    (hQ : ∀ x w' ρ', ρ.le ρ' → Rel w0 F E.G ro ρ' p.2 w' → VR ρ' p.1 x → Q (.panic [{ v := x, recovered := false }]) a w') : wpOp P ops Q j K a w := by
  unfold wpOp
  simp only [ho]
  unfold compGP at h
  split at h
  · cases h
  · injection h with h; cases h
  · rename_i hg
    obtain ⟨hd, hw⟩ := guardD_sound (st := ⟨rs.tmps, [], rs.hp⟩) d.tr hg
    rw [hw]
    refine .inl ?_
    obtain ⟨r, h1, h2⟩ := T.run_bind_some h
    cases r with
    | inl q =>
      obtain ⟨v, _, h4⟩ := T.run_bind_some h2
      injection h4 with h4; cases h4
    | inr p' =>
      injection h2 with h2; injection h2 with h2; subst h2
      have no : ¬ ((compC E ro call t0 b0 stride j o mask c rs).bind fun q => T.ret (Sum.inl q : Sum (V × Eff) PN)).run = some (.inr p') := fun h => by
        obtain ⟨q'', _, g2⟩ := T.run_bind_some h
        injection g2 with g2; cases g2
      cases c <;> first | exact absurd h1 no | skip
      · -- read
        have hr : Rel ⟨w, ρ, rs.hp.nxt⟩ (OwnB ρ ⟨.lf, rs.hp.nxt, rs.hp.lim⟩) E.G (viewS ro rs mask) ρ ⟨.lf, rs.hp.nxt, rs.hp.lim⟩ w := d.rel.rebase (own := ⟨.lf, rs.hp.nxt, rs.hp.lim⟩) (fun id b h => d.view h) (fun id b h => by cases h) (fun id i1 i2 => d.rel.fresh id i1 i2) (fun id b h => by cases h)
        refine compOpP_pan hE hc hr d.tr h1 fun v1 hp' x w' ρ' hf hle hr' hx => ?_
        unfold panRead at hf
        split at hf <;> try (cases hf; done)
        rename_i hu
        injection hf with hf; subst hf
        have hx' : VR ρ v1 x := under_mono (fun id y hy hlt => by
          rcases hr'.ren id y hy with k | k
          · exact k
          · have : rs.hp.nxt ≤ id := k.1
            omega) v1 x hu hx
        have hlook := d.rel.looked (own := ⟨.lf, rs.hp.nxt, rs.hp.lim⟩) (view := viewS ro rs mask) (fun id b h => d.view h) (fun _ => rfl) hr'
        have hd2 := d.look (o := o) (v2 := .any) (x := undef) hj hlook trivial hd
        exact hQ x w' ρ (Ren.le.refl _) (DI.bare (rs := applyE j o rs .any .keep) hd2) hx'
      · -- eff
        obtain ⟨s1, s2, s3⟩ := d.own_sep (mask := mask)
        have hr : Rel ⟨w, ρ, (effHp rs mask).nxt⟩ (OwnB ρ (effHp rs mask)) E.G ro ρ (effHp rs mask) w := d.rel.rebase s1 s2 (fun id i1 i2 => d.rel.fresh id i1 i2) s3
        refine compOpP_pan hE hc hr d.tr h1 fun v1 hp' x w' ρ' hf hle hr' hx => ?_
        injection hf with hf; subst hf
        have hd2 := d.eff (o := o) (v2 := .any) (x := undef) hj hle hr' trivial hd
        exact hQ x w' ρ' hle (DI.bare (rs := applyE j o rs .any (.heap hp' mask)) hd2) hx
      · -- heff
        rename_i H
        obtain ⟨s1, s2, s3⟩ := d.own_sep (mask := mask)
        have hr : Rel ⟨w, ρ, (effHp rs mask).nxt⟩ (OwnB ρ (effHp rs mask)) E.G ro ρ (effHp rs mask) w := d.rel.rebase s1 s2 (fun id i1 i2 => d.rel.fresh id i1 i2) s3
        have hsub : ∀ id b, (hideB (effHp rs mask).m H).get id = some b → (effHp rs mask).m.get id = some b := fun id b h => by
          rw [hideB_get] at h
          split at h
          · cases h
          · exact h
        have u1 : ∀ id b, Hp.at ro ⟨hideB (effHp rs mask).m H, rs.hp.nxt, rs.hp.lim⟩ id = some b → (effHp rs mask).at ro id = some b := fun id b h => by
          rcases at_split h with h1 | ⟨_, h1⟩
          · exact at_get (hsub id b h1)
          · exact hr.at_ro' h1
        have u2 : ∀ id b, (hideB (effHp rs mask).m H).get id = some b → ro id = none := fun id b h => s2 id b (hsub id b h)
        have u3 : ∀ id b, (hideB (effHp rs mask).m H).get id = some b → ∃ b', (effHp rs mask).m.get id = some b' := fun id b h => ⟨b, hsub id b h⟩
        have hr2 : Rel ⟨w, ρ, rs.hp.nxt⟩ (OwnB ρ ⟨hideB (effHp rs mask).m H, rs.hp.nxt, rs.hp.lim⟩) E.G ro ρ ⟨hideB (effHp rs mask).m H, rs.hp.nxt, rs.hp.lim⟩ w := hr.rebase (own := ⟨hideB (effHp rs mask).m H, rs.hp.nxt, rs.hp.lim⟩) u1 u2 (fun id i1 i2 => d.rel.fresh id i1 i2) u3
        refine compOpP_pan hE hc hr2 d.tr h1 fun v1 hp' x w' ρ' hf hle hr' hx => ?_
        injection hf with hf; subst hf
        have hle0 : rs.hp.nxt ≤ hp'.nxt := hr'.le0
        have hr3 : Rel ⟨w, ρ, (effHp rs mask).nxt⟩ (OwnB ρ (effHp rs mask)) E.G ro ρ' ⟨backB rs.hp.m hp'.m H, hp'.nxt, rs.hp.lim⟩ w' := by
          have hback : ∀ id b, (backB rs.hp.m hp'.m H).get id = some b → (memN id H = true ∧ rs.hp.m.get id = some b) ∨ (memN id H = false ∧ hp'.m.get id = some b) := fun id b h => by
            rw [backB_get] at h
            split at h
            · rename_i hm; exact .inl ⟨hm, h⟩
            · rename_i hm; exact .inr ⟨by simpa using hm, h⟩
          refine Rel.after (own := ⟨hideB (effHp rs mask).m H, rs.hp.nxt, rs.hp.lim⟩) hr u1 u2 u3 hle hr' (fun id b h => ?_) (fun id b h => ?_) (fun id i1 i2 => ⟨Nat.le_trans hle0 i1, i2, fun ⟨_, i4⟩ => absurd (show id < hp'.nxt from i4) (Nat.not_lt.2 i1)⟩) hle0 (Nat.le_refl _) (Nat.le_refl _)
          · rcases at_split h with h1 | ⟨h0, h1⟩
            · rcases hback id b h1 with ⟨g1, g2⟩ | ⟨_, g2⟩
              · have hown : (hideB (effHp rs mask).m H).get id = none := by rw [hideB_get, if_pos g1]
                cases hf : findSs rs.side 0 mask id with
                | none =>
                  refine .inl ⟨at_get ?_, hown⟩
                  simp only [effHp, addSs_get, hf]; exact g2
                | some b'' =>
                  exfalso
                  obtain ⟨k', s', q1, _, q3⟩ := findSs_some hf
                  have := (d.area k' s' id b'' q1 q3).2.2
                  rw [at_get g2] at this; cases this
              · exact .inr (at_get g2)
            · by_cases hm : memN id H = true
              · have : (hideB (effHp rs mask).m H).get id = none := by rw [hideB_get, if_pos hm]
                exact .inl ⟨hr.at_ro' h1, this⟩
              · refine .inr ?_
                have h0 : (backB rs.hp.m hp'.m H).get id = none := h0
                rw [backB_get, if_neg hm] at h0
                simp only [Hp.at, h0, h1]
          · rcases hback id b h with ⟨_, g2⟩ | ⟨_, g2⟩
            · exact d.sep id b g2
            · exact hr'.sep id b g2
        have hd2 := d.eff (o := o) (v2 := .any) (x := undef) hj hle hr3 trivial hd
        exact hQ x w' ρ' hle (DI.bare (rs := applyE j o rs .any (.heap ⟨backB rs.hp.m hp'.m H, hp'.nxt, rs.hp.lim⟩ mask)) hd2) hx
theorem evDraw_sound (hE : EnvOK P E) (hc : CallOK P E.G call) : DrawOK P E call := by
  intro w0 F ro nt ρ id ops st a w r hs h
  unfold evDraw at h
  split at h <;> try (cases h; done)
  rename_i cl hdc
  obtain ⟨hok, hcll⟩ := ok_of hdc
  simp only [drawOkL, Bool.and_eq_true] at hok
  obtain ⟨hns, hall⟩ := hok
  generalize hst : strideX E ops.toList cl = stride at h
  unfold drawRunP at h
  obtain ⟨q, h1, h2⟩ := T.run_bind_some h
  have hble : st.hp.nxt + ops.size * stride ≤ st.hp.lim := by
    unfold drawOutP at h2
    split at h2
    · unfold drawEnd at h2
      split at h2 <;> try (cases h2; done)
      rename_i hb; exact Nat.le_of_ble_eq_true hb
    · split at h2 <;> try (cases h2; done)
      rename_i hb
      simp only [Bool.and_eq_true] at hb
      exact Nat.le_of_ble_eq_true hb.2
  have hzip : ∀ i o c, ops[i]? = some o → cl[i]? = some c → (ops.toList.zip cl)[i]? = some (o, c) := fun i o c ho hc' => by
    rw [List.getElem?_zip_eq_some]; exact ⟨by simpa using ho, hc'⟩
  have hclOf : ∀ i, i < ops.size → ∃ c, cl[i]? = some c := fun i hi => ⟨cl[i], by rw [List.getElem?_eq_getElem (by omega)]⟩
  refine wp_region_any hE.mixed ?_
  have hstart : DI w0 F E.G ro nt ops.size st.hp.nxt stride st.dfr ρ (Array.replicate ops.size false) (drawStart st ops.size stride) a { w with drawn := w.drawn + 1 } ρ := by
    refine ⟨Ren.le.refl _, ?_, hs.tr, hs.dr, hs.nt, by simp [drawStart], by simp, fun j hj _ => ⟨by simp [drawStart, hj], fun id i1 i2 => ?_⟩, fun j l id b hl _ => ?_, Nat.le_refl _, hs.rel.sep, hs.rel.le0⟩
    · have hsh := (hs.rel.draw (w.drawn + 1)).shift (ops.size * stride)
      refine Rel.same hsh (fun id => ?_) rfl rfl
      simp only [comb, drawStart, addSs_get]
      cases hf : findSs (List.replicate ops.size none) 0 (2 ^ ops.size - 1) id with
      | none => rfl
      | some b =>
        obtain ⟨k, s, q1, _, _⟩ := findSs_some hf
        rw [List.getElem?_replicate] at q1
        split at q1 <;> cases q1
    · have := area_top (b0 := st.hp.nxt) (s := stride) hj
      exact hs.rel.fresh id (by omega) (by omega)
    · simp only [drawStart] at hl
      rw [List.getElem?_replicate] at hl
      split at hl <;> cases hl
  have hrem : rem ops.size (Array.replicate ops.size false) = List.range' 0 ops.size := by
    unfold rem
    rw [List.range_eq_range', List.filter_eq_self]
    intro k hk
    rw [List.mem_range'] at hk
    obtain ⟨i, hi, rfl⟩ := hk
    simp [Array.getD_eq_getD_getElem?, hi]
  have back : ∀ i o, ops[i]? = some o → ∀ e ∈ o.after.toList, Region.binds .any e = true → e.on < i := fun i o ho e he hb => by
    have hi : i < ops.size := (Array.getElem?_eq_some_iff.1 ho).1
    obtain ⟨c, hc'⟩ := hclOf i hi
    have := (okAll_spec hall i o c (hzip i o c ho hc')).1 e he hb
    omega
  have lt : ∀ (k : Nat), ∀ (b : Nat), k < ops.size → Nat.testBit ((masksOf ops).getD k 0) b = true → b < k := by
    intro k
    induction k using Nat.strongRecOn with
    | _ k ih =>
      intro b hk hb
      obtain ⟨e, q1, q2, q3⟩ := masksOf_bits (ops := ops) (o := ops[k]) (by simp [hk]) hb
      have q4 := back k ops[k] (by simp [hk]) e q1 q2
      rcases q3 with q3 | ⟨q3, q5⟩
      · omega
      · have := ih e.on q4 b (by omega) q5
        omega
  have swap : ∀ i j, j < i → i < ops.size → Nat.testBit ((masksOf ops).getD i 0) j = false → Swap (stepF E ro call nt ops cl st.tmps st.hp.nxt stride) j i := fun i j hji hi hbit s r1 r2 g1 g2 => by
    obtain ⟨oj, cj, a1, a2, a3, a4⟩ := stepF_some g1
    obtain ⟨oi, ci, b1, b2, b3, b4⟩ := stepF_some g2
    have hor := (okAll_spec hall j oj cj (hzip j oj cj a1 a2)).2 i oi ci hji (hzip i oi ci b1 b2)
    simp only [Nat.zero_add] at hor
    rcases hor with hor | ⟨hap, hcp⟩
    · have hor : Nat.testBit ((masksOf ops).getD i 0) j = true := hor
      rw [hbit] at hor; cases hor
    · have hmj : Nat.testBit ((masksOf ops).getD j 0) i = false := by
        cases hb : Nat.testBit ((masksOf ops).getD j 0) i
        · rfl
        · exfalso
          have := lt j i (by omega) hb
          omega
      have hdap : DAp st.tmps st.hp.nxt cj ci := dap_of hdc (List.mem_of_getElem? a2) (List.mem_of_getElem? b2)
      obtain ⟨r, r3, r4⟩ := stepO_swap (ops := ops) (i := i) (j := j) (by omega) hcp hdap hap hbit hmj a4 b4
      exact ⟨r, stepF_of b1 b2 b3 r3, stepF_of a1 a2 a3 r4⟩
  have closed0 : Closed ops (Array.replicate ops.size false) := fun k hk hl b hb => by
    simp [Array.getD_eq_getD_getElem?, hk] at hl
  cases q with
  | inl rf =>
    have h1' : runL (stepF E ro call nt ops cl st.tmps st.hp.nxt stride) (List.range' 0 ops.size) (drawStart st ops.size stride) = some rf := by
      rw [← runR_runL]; exact runRP_inl _ _ _ _ h1
    have h2 : (drawEnd st ops.size stride rf).run = some r := h2
    unfold drawEnd at h2
    split at h2 <;> try (cases h2; done)
    injection h2 with h2; subst h2
    refine draw_any (f := stepF E ro call nt ops cl st.tmps st.hp.nxt stride) (rf := rf)
      (fun listed rs a' w' => ∃ ρ', DI w0 F E.G ro nt ops.size st.hp.nxt stride st.dfr ρ listed rs a' w' ρ')
      back swap (fun listed rs a' w' i rs' ⟨ρ', hd⟩ hi hl hbits hf K hK => ?step) (fun listed a' w' hnil ⟨ρ', hd⟩ => ?fin)
      ops.size _ _ a _ (by simp) (by rw [hrem]; simp) closed0 ⟨ρ, hstart⟩ (by rw [hrem]; exact h1')
    case step =>
      obtain ⟨o, c, a1, a2, _, a4⟩ := stepF_some hf
      exact stepO_sound hE hc a1 hd hi hl a4 fun a'' w'' ρ'' hd' => hK a'' w'' ⟨ρ'', hd'⟩
    case fin =>
      refine ⟨ρ', hd.le, ⟨?_, hd.tr, hd.dr, hd.nt⟩, rfl⟩
      exact hd.rel
  | inr jp =>
    obtain ⟨j0, p⟩ := jp
    unfold drawOutP at h2
    simp only at h2
    split at h2 <;> try (cases h2; done)
    rename_i hpk
    simp only [Bool.and_eq_true, panOk] at hpk
    obtain ⟨⟨p1, p2⟩, _⟩ := hpk
    injection h2 with h2; subst h2
    obtain ⟨_, k2, r0, k3, k4⟩ := runRP_inr _ _ _ _ _ h1
    have k2 : j0 < ops.size := by omega
    rw [Nat.sub_zero] at k3
    have later : ∀ i, j0 < i → i < ops.size → Nat.testBit ((masksOf ops).getD i 0) j0 = true := by
      have key : ∀ (n k i : Nat), panLater (masksOf ops) j0 k n = true → k ≤ i → i < k + n → Nat.testBit ((masksOf ops).getD i 0) j0 = true := by
        intro n
        induction n with
        | zero => intro k i _ h1 h2; omega
        | succ n ih =>
          intro k i h h1 h2
          simp only [panLater, Bool.and_eq_true] at h
          by_cases e : i = k
          · subst e; exact h.1
          · exact ih (k + 1) i h.2 (by omega) (by omega)
      exact fun i h1 h2 => key _ _ i p1 (by omega) (by omega)
    have early : ∀ k c, k < j0 → cl[k]? = some c → Nat.testBit ((masksOf ops).getD j0 0) k = false → isEff c = false := by
      have key : ∀ (n k : Nat) (l : List Cls), panEarlier ((masksOf ops).getD j0 0) k l n = true → ∀ i c, i < n → l[i]? = some c → Nat.testBit ((masksOf ops).getD j0 0) (k + i) = false → isEff c = false := by
        intro n
        induction n with
        | zero => intro k l _ i c h; omega
        | succ n ih =>
          intro k l h i c hi hc hb
          cases l with
          | nil => simp at hc
          | cons c0 l =>
            simp only [panEarlier, Bool.and_eq_true, Bool.or_eq_true, Bool.not_eq_true'] at h
            cases i with
            | zero =>
              simp only [List.getElem?_cons_zero, Option.some.injEq] at hc; subst hc
              rcases h.1 with h1 | h1
              · rw [Nat.add_zero, h1] at hb; cases hb
              · exact h1
            | succ i => exact ih (k + 1) l h.2 i c (by omega) (by simpa using hc) (by rw [show k + 1 + i = k + (i + 1) by omega]; exact hb)
      exact fun k c h1 h2 h3 => key _ 0 cl p2 k c h1 h2 (by rw [Nat.zero_add]; exact h3)
    have agree : ∀ (t : Nat) (rs rs' : RS) (i : Nat), stepF E ro call nt ops cl st.tmps st.hp.nxt stride i rs = some rs' → (∀ o ∈ ops.toList, o.dst ≠ some t) → rs'.tmps.get t = rs.tmps.get t := fun t rs rs' i hf ht => by
      obtain ⟨o, c, a1, a2, _, a4⟩ := stepF_some hf
      obtain ⟨⟨v, e⟩, g1, g2⟩ := T.run_bind_some a4
      injection g2 with g2; subst g2
      rw [applyE_tmps]
      exact setT_get (ht o (by have := List.mem_of_getElem? (show ops.toList[i]? = some o by simpa using a1); exact this))
    have drops : ∀ (l : List Oper) (t : Nat) (v : V), (dropD st.tmps l).get t = some v → st.tmps.get t = some v ∧ ∀ o ∈ l, o.dst ≠ some t := by
      intro l
      induction l with
      | nil => intro t v h; exact ⟨h, fun o ho => by cases ho⟩
      | cons o l ih =>
        intro t v h
        unfold dropD at h
        split at h
        · rename_i d hd
          rw [Tr.get_set] at h
          split at h
          · cases h
          · rename_i hne
            obtain ⟨g1, g2⟩ := ih t v h
            refine ⟨g1, fun o' ho' => ?_⟩
            rcases List.mem_cons.1 ho' with rfl | ho'
            · rw [hd]; exact fun e => hne (Option.some.inj e).symm
            · exact g2 o' ho'
        · rename_i hd
          obtain ⟨g1, g2⟩ := ih t v h
          refine ⟨g1, fun o' ho' => ?_⟩
          rcases List.mem_cons.1 ho' with rfl | ho'
          · rw [hd]; exact fun e => by cases e
          · exact g2 o' ho'
    refine draw_pan (f := stepF E ro call nt ops cl st.tmps st.hp.nxt stride) (p := p) (g := fun rs p => panF E ro call nt ops cl st.tmps st.hp.nxt stride j0 rs p)
      (fun listed rs a' w' => (∃ ρ', DI w0 F E.G ro nt ops.size st.hp.nxt stride st.dfr ρ listed rs a' w' ρ') ∧ ∀ t, (∀ o ∈ ops.toList, o.dst ≠ some t) → rs.tmps.get t = st.tmps.get t)
      back swap (fun listed rs a' w' i rs' ⟨⟨ρ', hd⟩, hag⟩ hi hl hbits hf K hK => ?step) k2 later (fun k hk hb s s1 hs hg => ?light) (fun listed rs a' w' ⟨⟨ρ', hd⟩, hag⟩ hg K => ?pan)
      ops.size _ _ a _ (by simp) (by rw [hrem]; simp) closed0 ⟨⟨ρ, hstart⟩, fun t _ => rfl⟩ (by simp [Array.getD_eq_getD_getElem?, k2]) ⟨r0, ?start, k4⟩
    case step =>
      obtain ⟨o, c, a1, a2, _, a4⟩ := stepF_some hf
      exact stepO_sound hE hc a1 hd hi hl a4 fun a'' w'' ρ'' hd' => hK a'' w'' ⟨⟨ρ'', hd'⟩, fun t ht => (agree t rs rs' i hf ht).trans (hag t ht)⟩
    case light =>
      obtain ⟨ok, ck, a1, a2, a3, a4⟩ := stepF_some hs
      obtain ⟨o, c, b1, b2, b4⟩ := hg
      have hor := (okAll_spec hall k ok ck (hzip k ok ck a1 a2)).2 j0 o c hk (hzip j0 o c b1 b2)
      simp only [Nat.zero_add] at hor
      have hbb : Nat.testBit ((masksOf ops).getD j0 0) k = false := hb
      rcases hor with hor | ⟨hap, hcp⟩
      · have hor : Nat.testBit ((masksOf ops).getD j0 0) k = true := hor
        rw [hbb] at hor; cases hor
      · have hne := early k ck hk a2 hbb
        obtain ⟨⟨v, e⟩, g1, g2⟩ := T.run_bind_some a4
        injection g2 with g2; subst g2
        have heff := compG_eff g1
        have hlt : e = .keep ∨ ∃ l, e = .side l := by
          cases ck <;> simp only [isEff, Bool.true_eq_false] at hne <;> simp only [EffOf] at heff <;> first | exact heff | exact .inl heff
        obtain ⟨ap1, ap2, ap3⟩ := Oper.apart_spec hap
        have hcc : (isEff c = true ∨ c = .read) ∧ ∀ t, c ≠ .dstore t := by
          have no : ∀ {o : Oper} {m : Nat} {rs : RS}, ¬ ((compC E ro call st.tmps st.hp.nxt stride j0 o m c rs).bind fun q => T.ret (Sum.inl q : Sum (V × Eff) PN)).run = some (.inr p) := fun h => by
            obtain ⟨q'', _, g2⟩ := T.run_bind_some h
            injection g2 with g2; cases g2
          have b4 := b4
          unfold compGP at b4
          split at b4
          · cases b4
          · injection b4 with b4; cases b4
          · obtain ⟨q', m1, m2⟩ := T.run_bind_some b4
            cases q' with
            | inl q' =>
              obtain ⟨_, _, m4⟩ := T.run_bind_some m2
              injection m4 with m4; cases m4
            | inr q' =>
              injection m2 with m2; injection m2 with m2; subst m2
              cases c <;> first | exact absurd m1 no | exact ⟨.inr rfl, fun t h => by cases h⟩ | exact ⟨.inl rfl, fun t h => by cases h⟩
        refine ⟨o, c, b1, b2, ?_⟩
        rw [compGP_light hlt hcc.1 hcc.2 ap1 hbb] at b4
        exact b4
    case pan =>
      obtain ⟨o, c, b1, b2, b4⟩ := hg
      refine panO_sound hE hc b1 hd k2 b4 fun x w'' ρ'' g1 g2 g3 => ?_
      refine ⟨ρ'', hd.le.trans g1, ⟨g2, fun t v hv => ?_, DR.mono g1 hd.dr, hd.nt⟩, x, rfl, g3⟩
      obtain ⟨m1, m2⟩ := drops _ t v hv
      exact VR.mono g1 _ _ (hd.tr t v (by rw [hag t m2]; exact m1))
    case start =>
      rw [hrem]
      have e : (List.range' 0 ops.size).filter (· < j0) = List.range' 0 j0 := by
        rw [← List.range_eq_range', ← List.range_eq_range', show ops.size = j0 + (ops.size - j0) by omega, List.range_add, List.filter_append]
        have e1 : (List.range j0).filter (· < j0) = List.range j0 := by
          rw [List.filter_eq_self]; intro k hk; simpa using hk
        have e2 : ((List.range (ops.size - j0)).map (j0 + ·)).filter (· < j0) = [] := by
          rw [List.filter_eq_nil_iff]; intro k hk; simp at hk ⊢; omega
        rw [e1, e2, List.append_nil]
      rw [e]; exact k3
end
end Go.Ev
