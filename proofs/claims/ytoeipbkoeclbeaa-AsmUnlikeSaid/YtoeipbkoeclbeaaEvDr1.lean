/- Own text: operations of a region whose order is open: two that change places. -/
import Derived.Test.YtoeipbkoeclbeaaEvSe1
import Derived.Orders
namespace Go.Ev
/-! ### the map -/
theorem beq0 (k : Nat) : Nat.beq k 0 = decide (k = 0) := by cases k <;> rfl
theorem beq1 (k : Nat) : Nat.beq (k % 2) 1 = decide (k % 2 = 1) := by
  have : k % 2 = 0 ∨ k % 2 = 1 := by omega
  rcases this with h | h <;> rw [h] <;> rfl
theorem Tr.upd_fuel {α : Type} (x : Option α) : ∀ (f g : Nat) (t : Tr α) (n : Nat), n < f → n < g → Tr.upd x f t n = Tr.upd x g t n := by
  intro f
  induction f with
  | zero => intro g t n h; omega
  | succ f ih =>
    intro g t n h1 h2
    cases g with
    | zero => omega
    | succ g =>
      by_cases h0 : n = 0
      · subst h0; cases t <;> rfl
      · have e1 : n / 2 < f := by omega
        have e2 : n / 2 < g := by omega
        have e3 : n / 2 - 1 < f := by omega
        have e4 : n / 2 - 1 < g := by omega
        cases t <;> simp only [Tr.upd, beq0, beq1, h0, decide_false] <;> (by_cases hp : n % 2 = 1 <;> simp only [hp, decide_true, decide_false, ih g _ _ e1 e2, ih g _ _ e3 e4])
theorem Tr.upd_comm {α : Type} (x y : Option α) : ∀ (f : Nat) (t : Tr α) (n m : Nat), n ≠ m → n < f → m < f → Tr.upd y f (Tr.upd x f t n) m = Tr.upd x f (Tr.upd y f t m) n := by
  intro f
  induction f with
  | zero => intro t n m _ h; omega
  | succ f ih =>
    intro t n m hne hn hm
    by_cases h0 : n = 0
    · subst h0
      have hm0 : ¬ m = 0 := fun e => hne e.symm
      cases t <;> simp only [Tr.upd, beq0, beq1, hm0, decide_true, decide_false] <;> (by_cases hp : m % 2 = 1 <;> simp only [hp, decide_true, decide_false, Tr.upd, beq0])
    · by_cases k0 : m = 0
      · subst k0
        cases t <;> simp only [Tr.upd, beq0, beq1, h0, decide_true, decide_false] <;> (by_cases hp : n % 2 = 1 <;> simp only [hp, decide_true, decide_false, Tr.upd, beq0])
      · by_cases hp : n % 2 = 1 <;> by_cases kp : m % 2 = 1
        · have e := fun t => ih t (n / 2) (m / 2) (by omega) (by omega) (by omega)
          cases t <;> simp only [Tr.upd, beq0, beq1, h0, k0, hp, kp, decide_true, decide_false, e]
        · cases t <;> simp only [Tr.upd, beq0, beq1, h0, k0, hp, kp, decide_true, decide_false]
        · cases t <;> simp only [Tr.upd, beq0, beq1, h0, k0, hp, kp, decide_true, decide_false]
        · have e := fun t => ih t (n / 2 - 1) (m / 2 - 1) (by omega) (by omega) (by omega)
          cases t <;> simp only [Tr.upd, beq0, beq1, h0, k0, hp, kp, decide_true, decide_false, e]
theorem Tr.set_comm {α : Type} (t : Tr α) {n m : Nat} (h : n ≠ m) (x y : Option α) : (t.set n x).set m y = (t.set m y).set n x := by
  unfold Tr.set
  have a1 : ∀ t, Tr.upd x (n + 1) t n = Tr.upd x (n + m + 1) t n := fun t => Tr.upd_fuel x _ _ t n (by omega) (by omega)
  have a2 : ∀ t, Tr.upd y (m + 1) t m = Tr.upd y (n + m + 1) t m := fun t => Tr.upd_fuel y _ _ t m (by omega) (by omega)
  rw [a1, a2, a2, a1, Tr.upd_comm x y _ t n m h (by omega) (by omega)]
/-! ### an operation looks at its temporaries alone -/
def TEq (ts : List Tmp) (t t' : Tr V) : Prop := ∀ d ∈ ts, t.get d = t'.get d
section
variable {E : Env} {ro : RO} {tmps tmps' : Tr V} {hp : Hp} {ops : Array Oper}
theorem opV_congr {G : Nat} {x : Operand} (h : ∀ t, x = .tmp t → tmps.get t = tmps'.get t) : opV G tmps x = opV G tmps' x := by
  cases x with
  | tmp t => simp only [opV, tmpV, h t rfl]
  | _ => rfl
theorem opVs_congr {G : Nat} : ∀ {l : List Operand}, (∀ x ∈ l, opV G tmps x = opV G tmps' x) → opVs G tmps l = opVs G tmps' l
  | [], _ => rfl
  | x :: l, h => by
    unfold opVs
    rw [h x (by simp), opVs_congr fun y hy => h y (by simp [hy])]
theorem partsV_congr {G : Nat} : ∀ {l : List (Nat × Operand)}, (∀ p ∈ l, opV G tmps p.2 = opV G tmps' p.2) → partsV G tmps l = partsV G tmps' l
  | [], _ => rfl
  | (i, x) :: l, h => by
    unfold partsV
    rw [h (i, x) (by simp), partsV_congr fun y hy => h y (by simp [hy])]
theorem evOp_congr' {ti : Nat → Option TI} {G : Nat} (o : Oper) (h : ∀ x ∈ o.op.operands, opV G tmps x = opV G tmps' x) : evOp ti G ro tmps hp o = evOp ti G ro tmps' hp o := by
  obtain ⟨dst, op, ty, pos, after, guard⟩ := o
  cases op <;> simp only [Op.operands] at h <;> simp only [evOp]
  case move x => simp only [ev1, h x (by simp)]
  case assign x => simp only [ev1, h x (by simp)]
  case pick c x y => simp only [evPick, h c (by simp), h x (by simp), h y (by simp)]
  case box e x => simp only [evBox, h x (by simp)]
  case build t ps => simp only [evBuild]; rw [partsV_congr (tmps' := tmps') fun p hp => h p.2 (by simpa using ⟨p.1, by simpa using hp⟩)]
  case buildSlice t n ps => simp only [evBuildSlice]; rw [partsV_congr (tmps' := tmps') fun p hp => h p.2 (by simpa using ⟨p.1, by simpa using hp⟩)]
  case load t x => simp only [evLoad, h x (by simp)]
  case store t x y => simp only [evStore, h x (by simp), h y (by simp)]
  case nilCheck x => simp only [h x (by simp)]
  case binOp op t x y z => simp only [ev2, h x (by simp), h y (by simp)]
  case unOp op t x => simp only [ev1, h x (by simp)]
  case convert s d x => simp only [evConv, ev1, h x (by simp)]
  case makeInterface t x => simp only [ev1, h x (by simp)]
  case makeFunc fn first cap => simp only [evFunc]; rw [opVs_congr (l := first.toList) (tmps' := tmps') fun x hx => h x (by simp at hx ⊢; exact .inl hx), opVs_congr (l := cap.toList) (tmps' := tmps') fun x hx => h x (by simp at hx ⊢; exact .inr hx)]
  case makeSlice t l c => simp only [evMake, h l (by simp), h c (by simp)]
  case slice t x lo hi mx =>
    have ho : ∀ o : Option Operand, (∀ y, o = some y → opV G tmps y = opV G tmps' y) → optI G tmps o = optI G tmps' o := fun o ho => by cases o with
      | none => rfl
      | some y => simp only [optI, ho y rfl]
    have hx := h x (by simp)
    have hlo := ho lo fun y hy => h y (by simp [hy])
    have hhi := ho hi fun y hy => h y (by simp [hy])
    simp only [evSlice, hx, hlo, hhi]
  case fieldAddr s x f => simp only [ev1, h x (by simp)]
  case field t x f => simp only [ev1, h x (by simp)]
  case indexAddr t x i => simp only [ev2, h x (by simp), h i (by simp)]
  case index t x i => simp only [ev2, h x (by simp), h i (by simp)]
  case extract x i => simp only [evExtract, h x (by simp)]
  case call c =>
    have ha : opVs G tmps c.args.toList = opVs G tmps' c.args.toList := opVs_congr fun x hx => h x (by simp [Call.operands] at hx ⊢; exact .inr hx)
    unfold evCall
    cases hc : c.callee with
    | value f => simp only [evCallV, ha, h f (by simp [Call.operands, hc])]
    | builtin b => simp only [ha]
    | invoke r m => rfl
  case defer c =>
    have ha : opVs G tmps c.args.toList = opVs G tmps' c.args.toList := opVs_congr fun x hx => h x (by simp [Call.operands] at hx ⊢; exact .inr hx)
    unfold evDefer
    cases hc : c.callee with
    | value f => simp only [ha, h f (by simp [Call.operands, hc])]
    | _ => rfl
theorem evOp_congr {ti : Nat → Option TI} {G : Nat} {o : Oper} (h : ∀ d ∈ o.looksAt ops, tmps.get d = tmps'.get d) : evOp ti G ro tmps hp o = evOp ti G ro tmps' hp o :=
  evOp_congr' o fun x hx => opV_congr fun t e => h t (by
    subst e
    exact List.mem_append_left _ (List.mem_filterMap.2 ⟨.tmp t, by simpa using hx, rfl⟩))
theorem opV_looks {G : Nat} {o : Oper} {x : Operand} (h : ∀ d ∈ o.looksAt ops, tmps.get d = tmps'.get d) (hx : x ∈ o.op.operands) : opV G tmps x = opV G tmps' x :=
  opV_congr fun t e => h t (by
    subst e
    exact List.mem_append_left _ (List.mem_filterMap.2 ⟨.tmp t, by simpa using hx, rfl⟩))
theorem guardD_congr {nt : Nat} {o : Oper} (h : ∀ d ∈ o.looksAt ops, tmps.get d = tmps'.get d) : guardD nt ops.toList tmps o = guardD nt ops.toList tmps' o := by
  unfold guardD
  split <;> try rfl
  unfold guardV
  cases hg : o.guard with
  | none => rfl
  | some jw =>
    obtain ⟨j, want⟩ := jw
    simp only
    split <;> try rfl
    rename_i oj hoj
    split <;> try rfl
    rename_i d hd
    unfold tmpBool
    rw [h d]
    have hoj' : ops[j]? = some oj := by simpa using hoj
    exact List.mem_append_right _ (by simp [hg, hoj', hd])
end
/-! ### the side blocks -/
theorem findSs_set {x : Option Side} {mask id : Nat} : ∀ (l : List (Option Side)) (i k : Nat), Nat.testBit mask (i + k) = false → findSs (l.set k x) i mask id = findSs l i mask id
  | [], _, _, _ => rfl
  | s :: l, i, 0, h => by
    simp only [Nat.add_zero] at h
    simp only [List.set_cons_zero, findSs, h]
  | s :: l, i, k + 1, h => by
    have ih := findSs_set (x := x) (mask := mask) (id := id) l (i + 1) k (by rw [show i + 1 + k = i + (k + 1) by omega]; exact h)
    simp only [List.set_cons_succ, findSs, ih]
theorem addSs_set {x : Option Side} {mask : Nat} : ∀ (l : List (Option Side)) (m : Tr Blk) (i k : Nat), Nat.testBit mask (i + k) = false → addSs m (l.set k x) i mask = addSs m l i mask
  | [], _, _, _, _ => rfl
  | s :: l, m, i, 0, h => by
    simp only [Nat.add_zero] at h
    simp only [List.set_cons_zero, addSs, h]
  | s :: l, m, i, k + 1, h => by
    have ih := fun m => addSs_set (x := x) (mask := mask) l m (i + 1) k (by rw [show i + 1 + k = i + (k + 1) by omega]; exact h)
    simp only [List.set_cons_succ, addSs, ih]
theorem clearS_set {x : Option Side} {mask : Nat} : ∀ (l : List (Option Side)) (i k : Nat), Nat.testBit mask (i + k) = false → clearS (l.set k x) i mask = (clearS l i mask).set k x
  | [], _, _, _ => rfl
  | s :: l, i, 0, h => by
    simp only [Nat.add_zero] at h
    simp only [List.set_cons_zero, clearS, h]
  | s :: l, i, k + 1, h => by
    have ih := clearS_set (x := x) (mask := mask) l (i + 1) k (by rw [show i + 1 + k = i + (k + 1) by omega]; exact h)
    simp only [List.set_cons_succ, clearS, ih]
theorem clearS_zero : ∀ (l : List (Option Side)) (i : Nat), clearS l i 0 = l
  | [], _ => rfl
  | s :: l, i => by simp only [clearS, Nat.zero_testBit, clearS_zero l (i + 1)]
theorem setT_get {tmps : Tr V} {dst : Option Tmp} {v : V} {d : Tmp} (h : dst ≠ some d) : (setT tmps dst v).get d = tmps.get d := by
  cases dst with
  | none => rfl
  | some e =>
    simp only [setT, Tr.get_set]
    rw [if_neg fun he => h (by rw [he])]
theorem setT_comm {tmps : Tr V} {x y : Option Tmp} {u v : V} (h : ∀ d, x = some d → y ≠ some d) : setT (setT tmps x u) y v = setT (setT tmps y v) x u := by
  cases x with
  | none => rfl
  | some d =>
    cases y with
    | none => rfl
    | some e => exact Tr.set_comm _ (fun he => h d rfl (by rw [he])) _ _
theorem loadV_congr {ti : Nat → Option TI} {h h' : Nat → Option Blk} {ty : TypeId} {x : V} {b : Nat} (hx : ptrIs x b = true) (hb : h b = h' b) : loadV ti h ty x = loadV ti h' ty x := by
  unfold ptrIs at hx
  split at hx <;> try (cases hx; done)
  have e := Nat.eq_of_beq_eq_true hx
  subst e
  simp only [loadV, hb]
theorem storeV_at {ti : Nat → Option TI} {hp hp' : Hp} {ty : TypeId} {x y : V} {b : Nat} (hx : ptrIs x b = true) (h : (storeV ti hp ty x y).run = some hp') : ∃ blk, hp' = hp.put b (some blk) := by
  unfold ptrIs at hx
  split at hx <;> try (cases hx; done)
  have e := Nat.eq_of_beq_eq_true hx
  subst e
  unfold storeV at h
  simp only at h
  split at h <;> try (cases h; done)
  split at h <;> try (cases h; done)
  split at h <;> try (cases h; done)
  split at h <;> try (cases h; done)
  obtain ⟨blk, _, h2⟩ := T.run_bind_some h
  injection h2 with h2
  exact ⟨blk, h2.symm⟩
end Go.Ev
