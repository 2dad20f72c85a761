/- Own text: operations of a region whose order is open: any order ends as the written one does. -/
import Derived.Test.YtoeipbkoeclbeaaEvDr1
namespace Go.Ev
/-- What an operation of a class may do. -/
def EffOf (t0 : Tr V) (b0 mask : Nat) (rs : RS) (e : Eff) : Cls → Prop
  | .pure => e = .keep ∨ ∃ l, e = .side l
  | .new => e = .keep ∨ ∃ l, e = .side l
  | .read => e = .keep
  | .dload _ => e = .keep
  | .eff => e = .keep ∨ ∃ hp, e = .heap hp mask
  | .dstore t => e = .keep ∨ ∃ b blk, blkOf t0 b0 t = some b ∧ e = .heap (rs.hp.put b (some blk)) 0
/-- What is loaded and what is stored by itself lies apart. -/
def DAp (t0 : Tr V) (b0 : Nat) : Cls → Cls → Prop
  | .dload t, .dstore u => ∀ b c, blkOf t0 b0 t = some b → blkOf t0 b0 u = some c → b ≠ c
  | .dstore u, .dload t => ∀ b c, blkOf t0 b0 t = some b → blkOf t0 b0 u = some c → b ≠ c
  | _, _ => True
section
variable {E : Env} {ro : RO} {call : CallF} {nt : Nat} {ops : Array Oper} {t0 : Tr V} {b0 stride : Nat}
theorem T.run_bind_of {α β : Type} {t : T α} {f : α → T β} {a : α} (h : t.run = some a) : (t.bind f).run = (f a).run := by rw [T.run_bind, h]; rfl
theorem outR_some {view : RO} {own : Hp} {f : V → Hp → T (V × Eff)} {r : Res} {q : V × Eff} (h : (outR call view own f r).run = some q) : ∃ v hp, (f v hp).run = some q := by
  unfold outR at h
  split at h
  · exact ⟨_, _, h⟩
  · exact ⟨_, _, h⟩
  · obtain ⟨p, _, h2⟩ := T.run_bind_some h
    unfold outC at h2
    split at h2
    · exact ⟨_, _, h2⟩
    · cases h2
  · cases h
theorem newC_eff {base lim : Nat} {v : V} {hp : Hp} {q : V × Eff} (h : (newC base lim v hp).run = some q) : q.2 = .keep ∨ ∃ l, q.2 = .side l := by
  unfold newC at h
  split at h
  · injection h with h; subst h; exact .inl rfl
  · split at h <;> try (cases h; done)
    split at h <;> try (cases h; done)
    injection h with h; subst h; exact .inr ⟨_, rfl⟩
theorem compG_eff {j : Nat} {o : Oper} {mask : Nat} {c : Cls} {rs : RS} {q : V × Eff} (h : (compG E ro call nt ops.toList t0 b0 stride j o mask c rs).run = some q) : EffOf t0 b0 mask rs q.2 c := by
  unfold compG at h
  split at h
  · cases h
  · injection h with h; subst h
    cases c <;> first | exact rfl | exact .inl rfl
  · obtain ⟨p, h1, h2⟩ := T.run_bind_some h
    obtain ⟨v, _, h4⟩ := T.run_bind_some h2
    injection h4 with h4; subst h4
    show EffOf t0 b0 mask rs p.2 c
    cases c <;> simp only [compC] at h1
    case pure =>
      obtain ⟨r, _, h5⟩ := T.run_bind_some h1
      obtain ⟨v, hp, h6⟩ := outR_some h5
      exact newC_eff h6
    case new =>
      obtain ⟨r, _, h5⟩ := T.run_bind_some h1
      obtain ⟨v, hp, h6⟩ := outR_some h5
      exact newC_eff h6
    case read =>
      obtain ⟨r, _, h5⟩ := T.run_bind_some h1
      obtain ⟨v, hp, h6⟩ := outR_some h5
      unfold readC at h6
      split at h6 <;> try (cases h6; done)
      injection h6 with h6; subst h6; exact rfl
    case eff =>
      obtain ⟨r, _, h5⟩ := T.run_bind_some h1
      obtain ⟨v, hp, h6⟩ := outR_some h5
      injection h6 with h6; subst h6; exact .inr ⟨_, rfl⟩
    case dload t =>
      split at h1 <;> try (cases h1; done)
      unfold dloadC at h1
      split at h1 <;> try (cases h1; done)
      split at h1 <;> try (cases h1; done)
      split at h1 <;> try (cases h1; done)
      obtain ⟨r, _, h5⟩ := T.run_bind_some h1
      injection h5 with h5; subst h5; exact rfl
    case dstore t =>
      split at h1 <;> try (cases h1; done)
      rename_i b hb
      unfold dstoreC at h1
      split at h1 <;> try (cases h1; done)
      split at h1 <;> try (cases h1; done)
      split at h1 <;> try (cases h1; done)
      rename_i hx
      split at h1 <;> try (cases h1; done)
      obtain ⟨r, h7, h5⟩ := T.run_bind_some h1
      injection h5 with h5; subst h5
      obtain ⟨blk, rfl⟩ := storeV_at hx h7
      exact .inr ⟨b, blk, hb, rfl⟩
theorem applyE_tmps {j : Nat} {o : Oper} {rs : RS} {v : V} {e : Eff} : (applyE j o rs v e).tmps = setT rs.tmps o.dst v := by cases e <;> rfl
/-- Another operation does not change what this one reckons. -/
theorem compG_indep {i j : Nat} {oi oj : Oper} {mi mj : Nat} {ci cj : Cls} {rs : RS} {v : V} {e : Eff} (he : EffOf t0 b0 mi rs e ci) (hc : compat ci cj = true) (hd : DAp t0 b0 ci cj) (hl : ∀ d, oi.dst = some d → d ∉ oj.looksAt ops) (hm : Nat.testBit mj i = false) :
    compG E ro call nt ops.toList t0 b0 stride j oj mj cj (applyE i oi rs v e) = compG E ro call nt ops.toList t0 b0 stride j oj mj cj rs := by
  have hT : ∀ d ∈ oj.looksAt ops, (applyE i oi rs v e).tmps.get d = rs.tmps.get d := fun d hd' => by
    rw [applyE_tmps, setT_get fun h => hl d h hd']
  have hevop : ∀ (view : RO) (own : Hp) f, compOp E call view own f (applyE i oi rs v e).tmps oj = compOp E call view own f rs.tmps oj := fun view own f => by
    unfold compOp; rw [evOp_congr hT]
  unfold compG
  rw [guardD_congr hT]
  split <;> try rfl
  congr 1
  have hm0 : Nat.testBit mj (0 + i) = false := by rw [Nat.zero_add]; exact hm
  have light : (e = .keep ∨ ∃ l, e = .side l) → (applyE i oi rs v e).hp = rs.hp ∧ viewS ro (applyE i oi rs v e) mj = viewS ro rs mj ∧ addSs rs.hp.m (applyE i oi rs v e).side 0 mj = addSs rs.hp.m rs.side 0 mj := by
    intro h
    rcases h with rfl | ⟨l, rfl⟩
    · exact ⟨rfl, rfl, rfl⟩
    · refine ⟨rfl, ?_, addSs_set _ _ _ _ hm0⟩
      funext id
      simp only [viewS, applyE, findSs_set _ _ _ hm0]
  cases cj <;> simp only [compC]
  case pure => exact hevop _ _ _
  case new =>
    have hk : e = .keep ∨ ∃ l, e = .side l := by
      cases ci <;> simp only [EffOf] at he <;> first | exact he | exact .inl he | (cases hc; done)
    obtain ⟨_, h2, _⟩ := light hk
    rw [h2]; exact hevop _ _ _
  case read =>
    have hk : e = .keep ∨ ∃ l, e = .side l := by
      cases ci <;> simp only [EffOf] at he <;> first | exact he | exact .inl he | (cases hc; done)
    obtain ⟨h1, h2, _⟩ := light hk
    rw [h1, h2]; exact hevop _ _ _
  case eff =>
    have hk : e = .keep ∨ ∃ l, e = .side l := by
      cases ci <;> simp only [EffOf] at he <;> first | exact he | exact .inl he | (cases hc; done)
    obtain ⟨h1, _, h3⟩ := light hk
    rw [h1, h3]; exact hevop _ _ _
  case dload t =>
    split <;> try rfl
    rename_i b hb
    have hheap : (applyE i oi rs v e).hp.at ro b = rs.hp.at ro b := by
      cases ci <;> simp only [EffOf] at he
      case pure => rw [(light he).1]
      case new => rw [(light he).1]
      case read => rw [(light (.inl he)).1]
      case dload => rw [(light (.inl he)).1]
      case eff => cases hc
      case dstore u =>
        rcases he with he | ⟨c, blk, hb', rfl⟩
        · rw [(light (.inl he)).1]
        · have hne : b ≠ c := hd b c hb hb'
          simp only [applyE, Hp.at, Hp.put, Tr.get_set, if_neg hne]
    unfold dloadC
    split <;> try rfl
    rename_i ty a hop
    rw [opV_looks (G := E.G) hT (x := a) (by rw [hop]; simp [Op.operands])]
    split <;> try rfl
    split <;> try rfl
    rename_i hx
    rw [loadV_congr hx hheap]
  case dstore t =>
    have hk : e = .keep ∨ ∃ l, e = .side l := by
      cases ci <;> simp only [EffOf] at he <;> first | exact he | exact .inl he | (cases hc; done)
    obtain ⟨h1, _, _⟩ := light hk
    rw [h1]
    split <;> try rfl
    unfold dstoreC
    split <;> try rfl
    rename_i ty a y hop
    rw [opV_looks (G := E.G) hT (x := a) (by rw [hop]; simp [Op.operands]), opV_looks (G := E.G) hT (x := y) (by rw [hop]; simp [Op.operands])]
theorem compat_symm {a b : Cls} (h : compat a b = true) : compat b a = true := by
  cases a <;> cases b <;> first | exact h | rfl
theorem DAp.symm {a b : Cls} (h : DAp t0 b0 a b) : DAp t0 b0 b a := by
  cases a <;> cases b <;> first | exact h | trivial
theorem eff_mask {mask k : Nat} {rs : RS} {c : Cls} {hp : Hp} {m : Nat} (h : EffOf t0 b0 mask rs (.heap hp m) c) (hk : Nat.testBit mask k = false) : Nat.testBit m k = false := by
  cases c <;> simp [EffOf] at h
  · rw [h]; exact hk
  · obtain ⟨_, _, _, _, rfl⟩ := h; simp
/-- Two change places. -/
theorem stepO_swap {i j : Nat} {oi oj : Oper} {mi mj : Nat} {ci cj : Cls} {rs r1 r2 : RS} (hne : i ≠ j) (hc : compat cj ci = true) (hd : DAp t0 b0 cj ci) (hap : oj.apart ops oi = true) (hmi : Nat.testBit mi j = false) (hmj : Nat.testBit mj i = false)
    (h1 : (stepO E ro call nt ops.toList t0 b0 stride j oj mj cj rs).run = some r1) (h2 : (stepO E ro call nt ops.toList t0 b0 stride i oi mi ci r1).run = some r2) :
    ∃ r, (stepO E ro call nt ops.toList t0 b0 stride i oi mi ci rs).run = some r ∧ (stepO E ro call nt ops.toList t0 b0 stride j oj mj cj r).run = some r2 := by
  obtain ⟨a1, a2, a3⟩ := Oper.apart_spec hap
  obtain ⟨⟨vj, ej⟩, g1, g2⟩ := T.run_bind_some h1
  injection g2 with g2; subst g2
  obtain ⟨⟨vi, ei⟩, g3, g4⟩ := T.run_bind_some h2
  injection g4 with g4; subst g4
  have hej := compG_eff g1
  rw [compG_indep hej hc hd a1 hmi] at g3
  have hei := compG_eff g3
  refine ⟨applyE i oi rs vi ei, ?_, ?_⟩
  · unfold stepO; rw [T.run_bind_of g3]; rfl
  · unfold stepO
    rw [compG_indep hei (compat_symm hc) hd.symm a3 hmj, T.run_bind_of g1]
    simp only [T.run, Option.some.injEq]
    have hm0 : Nat.testBit mj (0 + i) = false := by rw [Nat.zero_add]; exact hmj
    have hm1 : Nat.testBit mi (0 + j) = false := by rw [Nat.zero_add]; exact hmi
    have hset := setT_comm (tmps := rs.tmps) (u := vj) (v := vi) a2
    cases ej <;> cases ei <;> simp only [applyE, hset]
    · rw [List.set_comm _ _ hne]
    · rw [clearS_set _ _ _ (eff_mask hei hm1)]
    · rw [clearS_set _ _ _ (eff_mask hej hm0)]
    · exfalso
      cases cj <;> cases ci <;> simp [EffOf, compat, isEff, reads] at hej hei hc
end
end Go.Ev
