/- Own text: blocks that are not written any more become values that do not change. -/
import Derived.Test.YtlmacdfbdhpljaaGreatDoorEvF
namespace Go.Ev
open Go.Ev.Tr
def deepC : V → Option Dv
  | .int k i => match ile (kmin k) i.lo && ile i.hi (kmax k) with
    | true => some (.int k i.n)
    | false => none
  | .bool b => some (.bool b)
  | .sbool b => some (.bool b)
  | .str s => match Nat.ble s.length 281474976710656 with
    | true => some (.str (s.map byteOf))
    | false => none
  | .ssym s => some (.str s)
  | .nilp => some .nilp
  | .nils => some .nils
  | .nili => some .nili
  | .nilf => some .nilf
  | .deep d => some d
  | _ => none
def allSome {α β : Type} (f : α → Option β) : List α → Option (List β)
  | [] => some []
  | a :: l => match f a with
    | some b => match allSome f l with
      | some r => some (b :: r)
      | none => none
    | none => none
/-- A value with all that it leads to in blocks of one's own. -/
def deepV : Nat → Hp → V → Option Dv
  | 0, _, _ => none
  | n + 1, hp, v => match deepC v with
    | some d => some d
    | none => match v with
      | .ptr b o => match litI o with
        | some o => match hp.m.get b with
          | some blk => match blkCells blk with
            | some cs => match allSome (deepV n hp) cs with
              | some ds => some (.ptr ds o)
              | none => none
            | none => none
          | none => none
        | none => none
      | .slice b es o len _ _ => match isZero o with
        | true => match litI len with
          | some m => match hp.m.get b with
            | some blk => match blkCells blk with
              | some cs => match Nat.ble (m * es) cs.length with
                | true => match allSome (deepV n hp) (cs.take (m * es)) with
                  | some ds => some (.sl es ds)
                  | none => none
                | false => none
              | none => none
            | none => none
          | none => none
        | false => none
      | .iface t x => match deepV n hp x with
        | some d => some (.iface t d)
        | none => none
      | .func fn a c => match allSome (deepV n hp) a with
        | some a => match allSome (deepV n hp) c with
          | some c => some (.func fn a c)
          | none => none
        | none => none
      | _ => none
/-- The blocks that it takes. -/
def idsV : Nat → Hp → V → List Nat
  | 0, _, _ => []
  | n + 1, hp, v => match deepC v with
    | some _ => []
    | none => match v with
      | .ptr b _ => match hp.m.get b with
        | some blk => match blkCells blk with
          | some cs => b :: cs.flatMap (idsV n hp)
          | none => []
        | none => []
      | .slice b es _ len _ _ => match litI len with
        | some m => match hp.m.get b with
          | some blk => match blkCells blk with
            | some cs => b :: (cs.take (m * es)).flatMap (idsV n hp)
            | none => []
          | none => []
        | none => []
      | .iface _ x => idsV n hp x
      | .func _ a c => a.flatMap (idsV n hp) ++ c.flatMap (idsV n hp)
      | _ => []
theorem idsV_own {hp : Hp} : ∀ {n : Nat} {v : V} {i : Nat}, i ∈ idsV n hp v → ∃ b, hp.m.get i = some b
  | 0, _, _, h => by cases h
  | n + 1, v, i, h => by
    unfold idsV at h
    split at h
    · cases h
    · split at h
      · split at h <;> try (cases h; done)
        rename_i blk hblk
        split at h <;> try (cases h; done)
        rcases List.mem_cons.1 h with rfl | h
        · exact ⟨_, hblk⟩
        · obtain ⟨c, _, hc⟩ := List.mem_flatMap.1 h
          exact idsV_own hc
      · split at h <;> try (cases h; done)
        split at h <;> try (cases h; done)
        rename_i blk hblk
        split at h <;> try (cases h; done)
        rcases List.mem_cons.1 h with rfl | h
        · exact ⟨_, hblk⟩
        · obtain ⟨c, _, hc⟩ := List.mem_flatMap.1 h
          exact idsV_own hc
      · exact idsV_own h
      · rcases List.mem_append.1 h with h | h
        · obtain ⟨c, _, hc⟩ := List.mem_flatMap.1 h
          exact idsV_own hc
        · obtain ⟨c, _, hc⟩ := List.mem_flatMap.1 h
          exact idsV_own hc
      · cases h
section
variable {P : Program} {w0 : Base} {F : Nat → Prop} {G : Nat} {ro : RO} {ρ : Ren} {hp : Hp} {w : World}
open Classical in
/-- What does not change any more, when some blocks are not written any more. -/
noncomputable def Hn (ρ : Ren) (w : World) (ids : List Nat) (B : Nat) : Option (List Value) := match ρ.H B with
  | some l => some l
  | none => if ∃ id ∈ ids, ∃ t, ρ id = some (B, t) then (match w.heap[B]? with
      | some (.cells c _ _) => some c.toList
      | _ => none) else none
theorem Hn_old {ids : List Nat} {B : Nat} {l : List Value} (h : ρ.H B = some l) : Hn ρ w ids B = some l := by unfold Hn; rw [h]
theorem Hn_new (hr : Rel w0 F G ro ρ hp w) {ids : List Nat} {id B t : Nat} {b : Blk} (h1 : id ∈ ids) (h2 : hp.m.get id = some b) (h3 : ρ id = some (B, t)) {l : List Value} {tt : TypeId} {fz : Nat × Nat} (h4 : w.heap[B]? = some (.cells ⟨l⟩ tt fz)) : Hn ρ w ids B = some l := by
  unfold Hn
  rw [hr.fz.sep _ _ _ _ h2 h3]
  simp only
  rw [if_pos ⟨id, h1, t, h3⟩, h4]
theorem Hn_cases {ids : List Nat} {B : Nat} {l : List Value} (h : Hn ρ w ids B = some l) : ρ.H B = some l ∨ (∃ id ∈ ids, ∃ t, ρ id = some (B, t)) ∧ ∃ t fz, w.heap[B]? = some (.cells ⟨l⟩ t fz) := by
  unfold Hn at h
  split at h
  · rename_i l' hl; exact .inl (by rw [hl]; exact h)
  · split at h
    · rename_i hc
      split at h
      · rename_i c t fz hw
        injection h with h; subst h
        exact .inr ⟨hc, t, fz, hw⟩
      · cases h
    · cases h
theorem deepC_sound {H : Nat → Option (List Value)} (hH : ∀ B l, ρ.H B = some l → H B = some l) {v : V} {d : Dv} {x : Value} (h : deepC v = some d) (hx : VR ρ v x) : FR H d x := by
  unfold deepC at h
  split at h <;> try contradiction
  · split at h <;> try contradiction
    rename_i hc
    simp only [Bool.and_eq_true, ile_iff] at hc
    injection h with h; subst h
    obtain ⟨n, rfl, h1, h2, h3⟩ := hx
    subst h1
    exact ⟨rfl, Int.le_trans hc.1 h2, Int.le_trans h3 hc.2⟩
  · injection h with h; subst h; exact hx
  · injection h with h; subst h; exact hx
  · split at h <;> try contradiction
    rename_i hc
    injection h with h; subst h
    obtain ⟨rfl, _⟩ := hx
    exact ⟨rfl, by rw [List.length_map]; exact Nat.le_of_ble_eq_true hc⟩
  · injection h with h; subst h; exact hx
  · injection h with h; subst h; exact hx
  · injection h with h; subst h; exact hx
  · injection h with h; subst h; exact hx
  · injection h with h; subst h; exact hx
  · injection h with h; subst h; exact FR.mono hH _ _ hx
theorem allSome_sound {H : Nat → Option (List Value)} {f : V → Option Dv} : ∀ {cs : List V} {ds : List Dv} {l : List Value}, allSome f cs = some ds → VRs ρ cs l → (∀ c ∈ cs, ∀ d x, f c = some d → VR ρ c x → FR H d x) → FRs H ds l
  | [], ds, l, h, hv, _ => by injection h with h; subst h; exact hv
  | c :: cs, ds, l, h, ⟨x, xs, h1, h2, h3⟩, hf => by
    unfold allSome at h
    split at h <;> try contradiction
    rename_i d hd
    split at h <;> try contradiction
    rename_i r hr
    injection h with h; subst h
    exact ⟨x, xs, h1, hf c (by simp) d x hd h2, allSome_sound hr h3 fun c hc => hf c (by simp [hc])⟩
theorem deepV_sound (hr : Rel w0 F G ro ρ hp w) {ids : List Nat} : ∀ (n : Nat) (v : V) (x : Value) (d : Dv), deepV n hp v = some d → VR ρ v x → (∀ i ∈ idsV n hp v, i ∈ ids) → FR (Hn ρ w ids) d x
  | 0, _, _, _, h, _, _ => by cases h
  | n + 1, v, x, d, h, hx, hi => by
    have ih := deepV_sound hr (ids := ids) n
    unfold deepV at h
    unfold idsV at hi
    split at h
    · rename_i d' hd
      injection h with h; subst h
      exact deepC_sound (fun B l hB => Hn_old hB) hd hx
    · rename_i hnc
      rw [hnc] at hi
      simp only at hi
      split at h <;> try contradiction
      · rename_i b o
        split at h <;> try contradiction
        rename_i o' ho
        split at h <;> try contradiction
        rename_i blk hblk
        split at h <;> try contradiction
        rename_i cs hcs
        split at h <;> try contradiction
        rename_i ds hds
        injection h with h; subst h
        simp only [hblk, hcs] at hi
        obtain ⟨B, tot, m, h1, rfl, h2⟩ := hx
        have := litI_int ho h2
        have hm : m = o' := by omega
        subst hm
        obtain ⟨B', tot', ob, k1, k2, k3, _⟩ := hr.blk b blk (at_get hblk)
        rw [h1] at k1
        obtain ⟨rfl, rfl⟩ := Prod.mk.inj (Option.some.inj k1)
        obtain ⟨l, l', t, fz, rfl, q1, _⟩ := blkCells_sound hcs k3
        refine ⟨B, l, l', rfl, Hn_new hr (hi b (by simp)) hblk h1 k2, allSome_sound hds q1 fun c hc d x hd hx => ih c x d hd hx fun i hii => hi i ?_⟩
        exact List.mem_cons_of_mem _ (List.mem_flatMap.2 ⟨c, hc, hii⟩)
      · rename_i b es o len clo chi
        split at h <;> try contradiction
        rename_i hz
        split at h <;> try contradiction
        rename_i m hm
        split at h <;> try contradiction
        rename_i blk hblk
        split at h <;> try contradiction
        rename_i cs hcs
        split at h <;> try contradiction
        rename_i hle
        have hle := Nat.le_of_ble_eq_true hle
        split at h <;> try contradiction
        rename_i ds hds
        injection h with h; subst h
        simp only [hm, hblk, hcs] at hi
        obtain ⟨B, tot, no, nl, cap, h1, rfl, h2, h3, _, _, h4, _⟩ := hx
        have hno : no = 0 := by
          simp only [isZero, Bool.and_eq_true, ieq_iff] at hz
          have := h2.2; omega
        subst hno
        have := litI_int hm h3
        have hnl : nl = m := by omega
        subst hnl
        obtain ⟨B', tot', ob, k1, k2, k3, _⟩ := hr.blk b blk (at_get hblk)
        rw [h1] at k1
        obtain ⟨rfl, rfl⟩ := Prod.mk.inj (Option.some.inj k1)
        obtain ⟨l, l', t, fz, rfl, q1, _⟩ := blkCells_sound hcs k3
        have hll := q1.length
        have hds2 : ds.length = nl * es := by
          have : ∀ {f : V → Option Dv} {cs : List V} {ds : List Dv}, allSome f cs = some ds → ds.length = cs.length := by
            intro f cs
            induction cs with
            | nil => intro ds h; injection h with h; subst h; rfl
            | cons c cs ih =>
              intro ds h
              unfold allSome at h
              split at h <;> try contradiction
              split at h <;> try contradiction
              rename_i r hr
              injection h with h; subst h
              simp [ih hr]
          rw [this hds, List.length_take]; omega
        refine ⟨B, l.take (nl * es), l.drop (nl * es) ++ l', nl, cap, rfl, ?_, allSome_sound hds (q1.take _) fun c hc d x hd hx => ih c x d hd hx fun i hii => hi i ?_, hds2.symm, h4⟩
        · rw [← List.append_assoc, List.take_append_drop]
          exact Hn_new hr (hi b (by simp)) hblk h1 k2
        · exact List.mem_cons_of_mem _ (List.mem_flatMap.2 ⟨c, hc, hii⟩)
      · rename_i t v'
        split at h <;> try contradiction
        rename_i d' hd
        injection h with h; subst h
        obtain ⟨y, rfl, hy⟩ := hx
        exact ⟨y, rfl, ih v' y d' hd hy hi⟩
      · rename_i fn a c
        split at h <;> try contradiction
        rename_i a' ha
        split at h <;> try contradiction
        rename_i c' hc
        injection h with h; subst h
        obtain ⟨f, g, rfl, hf, hg⟩ := hx
        exact ⟨f, g, rfl, allSome_sound ha hf fun c hc d x hd hx => ih c x d hd hx fun i hii => hi i (List.mem_append_left _ (List.mem_flatMap.2 ⟨c, hc, hii⟩)), allSome_sound hc hg fun c hc d x hd hx => ih c x d hd hx fun i hii => hi i (List.mem_append_right _ (List.mem_flatMap.2 ⟨c, hc, hii⟩))⟩
def dropL (hp : Hp) (ids : List Nat) : Hp := ⟨hideB hp.m ids, hp.nxt, hp.lim⟩
theorem memN_iff {b : Nat} : ∀ {l : List Nat}, memN b l = true ↔ b ∈ l
  | [] => by simp [memN]
  | a :: l => by
    simp only [memN, Bool.or_eq_true, List.mem_cons, memN_iff]
    constructor
    · rintro (h | h)
      · exact .inl (Nat.eq_of_beq_eq_true h).symm
      · exact .inr h
    · rintro (h | h)
      · subst h; exact .inl (Nat.beq_refl _)
      · exact .inr h
theorem dropL_get {ids : List Nat} {id : Nat} {b : Blk} (h : (dropL hp ids).m.get id = some b) : hp.m.get id = some b ∧ id ∉ ids := by
  have h : (hideB hp.m ids).get id = some b := h
  rw [hideB_get] at h
  split at h
  · cases h
  · rename_i hm; exact ⟨h, fun hh => hm (memN_iff.2 hh)⟩
/-- Blocks are not written any more. -/
theorem Rel.freeze (hr : Rel w0 F G ro ρ hp w) {ids : List Nat} (hids : ∀ i ∈ ids, ∃ b, hp.m.get i = some b) : Rel w0 F G ro ⟨ρ.f, Hn ρ w ids⟩ (dropL hp ids) w := by
  have hle : ρ.le ⟨ρ.f, Hn ρ w ids⟩ := ⟨fun _ _ h => h, fun _ _ h => Hn_old h⟩
  have known : ∀ id b, (dropL hp ids).at ro id = some b → hp.at ro id = some b := fun id b h => by
    rcases at_split h with h1 | ⟨_, h1⟩
    · exact at_get (dropL_get h1).1
    · exact hr.at_ro' h1
  have ne : ∀ k, hp.m.get k = none → (dropL hp ids).m.get k = none := fun k hk => by
    cases hg : (dropL hp ids).m.get k with
    | none => rfl
    | some b => rw [(dropL_get hg).1] at hk; cases hk
  refine ⟨fun id b h => ?_, fun i j b c B t t' hi hj e1 e2 => (hr.inj _ _ _ _ _ _ _ (known _ _ hi) (known _ _ hj) e1 e2).imp (fun e => e) fun q => ⟨ne _ q.1, ne _ q.2⟩, fun id b h => hr.sep _ _ (dropL_get h).1, hr.fresh, hr.frame, hr.size, hr.tape, hr.os, hr.output, hr.glob, hr.ren, hr.le0, fun B l h => ?_, fun id b B t h1 h2 => ?_, fun B l h => ?_⟩
  · obtain ⟨B, t, o, e1, e2, e3, e4⟩ := hr.blk id b (known id b h)
    refine ⟨B, t, o, e1, e2, BR.mono hle _ _ e3, ?_⟩
    rcases e4 with e4 | e4
    · exact .inl (ne _ e4)
    · exact .inr e4
  · rcases Hn_cases h with h1 | ⟨_, h1⟩
    · exact hr.fz.keep B l h1
    · exact h1
  · obtain ⟨g1, g2⟩ := dropL_get h1
    have h2 : ρ id = some (B, t) := h2
    cases hq : Hn ρ w ids B with
    | none => exact hq
    | some l =>
      exfalso
      rcases Hn_cases hq with h3 | ⟨⟨id', h3, t', h4⟩, _⟩
      · rw [hr.fz.sep _ _ _ _ g1 h2] at h3; cases h3
      · obtain ⟨b', hb'⟩ := hids id' h3
        have := (hr.inj _ _ _ _ _ _ _ (at_get g1) (at_get hb') h2 h4).resolve_right (fun q => by rw [g1] at q; cases q.1)
        subst this
        exact g2 h3
  · rcases Hn_cases h with h1 | ⟨⟨id', h3, t', h4⟩, _⟩
    · exact hr.fz.new B l h1
    · obtain ⟨b', hb'⟩ := hids id' h3
      obtain ⟨B1, t1, o, e1, _, _, e4⟩ := hr.blk id' b' (at_get hb')
      rw [h4] at e1
      obtain ⟨rfl, rfl⟩ := Prod.mk.inj (Option.some.inj e1)
      exact .inr (e4.resolve_left (by rw [hb']; simp))
end
end Go.Ev

/- Own text: calls on blocks of one's own that leave values that do not change. -/
namespace Go.Ev
open Go.Ev.Tr
mutual
/-- Does it lead to no block that has a number? -/
def V.flat : V → Bool
  | .ptr .. => false
  | .slice .. => false
  | .map _ => false
  | .any => false
  | .wptr .. => false
  | .wsl .. => false
  | .func _ a c => flats a && flats c
  | .iface _ v => V.flat v
  | .agg cs => flats cs
  | .tup cs => flats cs
  | _ => true
def flats : List V → Bool
  | [] => true
  | c :: cs => V.flat c && flats cs
end
mutual
theorem flat_mono {ρ ρ' : Ren} (h : ∀ B l, ρ.H B = some l → ρ'.H B = some l) : ∀ (v : V) (x : Value), V.flat v = true → VR ρ v x → VR ρ' v x
  | .any, _, h, _ => by simp [V.flat] at h
  | .bool _, _, _, h => h
  | .sbool _, _, _, h => h
  | .int .., _, _, h => h
  | .str _, _, _, h => h
  | .ssym _, _, _, h => h
  | .nilp, _, _, h => h
  | .ptr .., _, h, _ => by simp [V.flat] at h
  | .nils, _, _, h => h
  | .slice .., _, h, _ => by simp [V.flat] at h
  | .nilm, _, _, h => h
  | .map _, _, h, _ => by simp [V.flat] at h
  | .func _ first cap, _, hu, ⟨f, c, h1, h2, h3⟩ => by
    simp only [V.flat, Bool.and_eq_true] at hu
    exact ⟨f, c, h1, flats_mono h _ _ hu.1 h2, flats_mono h _ _ hu.2 h3⟩
  | .nilf, _, _, h => h
  | .iface _ x, _, hu, ⟨y, h1, h2⟩ => ⟨y, h1, flat_mono h x y hu h2⟩
  | .nili, _, _, h => h
  | .agg cs, _, hu, ⟨l, h1, h2⟩ => ⟨l, h1, flats_mono h cs l hu h2⟩
  | .tup cs, _, hu, ⟨l, h1, h2⟩ => ⟨l, h1, flats_mono h cs l hu h2⟩
  | .deep d, x, _, hx => FR.mono h d x hx
  | .wptr .., _, h, _ => by simp [V.flat] at h
  | .wsl .., _, h, _ => by simp [V.flat] at h
theorem flats_mono {ρ ρ' : Ren} (h : ∀ B l, ρ.H B = some l → ρ'.H B = some l) : ∀ (vs : List V) (l : List Value), flats vs = true → VRs ρ vs l → VRs ρ' vs l
  | [], _, _, h => h
  | c :: cs, _, hu, ⟨x, xs, h1, h2, h3⟩ => by
    simp only [flats, Bool.and_eq_true] at hu
    exact ⟨x, xs, h1, flat_mono h c x hu.1 h2, flats_mono h cs xs hu.2 h3⟩
end
def Blk.flat : Blk → Bool
  | .cells cs => flats cs
  | .vec cs => flats cs
  | .map .. => false
  | .lastv .. => false
  | _ => true
theorem BR_flat {ρ ρ' : Ren} {tot : Nat} (h' : ∀ B l, ρ.H B = some l → ρ'.H B = some l) : ∀ (b : Blk) (o : Obj), b.flat = true → BR ρ tot b o → BR ρ' tot b o
  | .cells cs, _, hu, ⟨l, t, fz, h1, h2, h3⟩ => ⟨l, t, fz, h1, flats_mono h' cs l hu h2, h3⟩
  | .vec cs, _, hu, ⟨l, l', t, fz, h1, h2, h3⟩ => ⟨l, l', t, fz, h1, flats_mono h' cs l hu h2, h3⟩
  | .fn .., _, _, h => h
  | .ints .., _, _, h => h
  | .mem .., _, _, h => h
  | .seg .., _, _, h => h
  | .row .., _, _, h => h
  | .strs _, _, _, h => h
  | .map .., _, hu, _ => by cases hu
  | .siter .., _, _, h => h
  | .imap .., _, _, h => h
  | .win .., _, _, h => h
  | .lastv .., _, hu, _ => by cases hu
/-- A value as it is told when all that it leads to is not written any more. -/
def conv1 (n : Nat) (hp : Hp) (v : V) : Option V := match V.flat v with
  | true => some v
  | false => match deepV n hp v with
    | some d => some (.deep d)
    | none => none
def conv2 (n : Nat) (hp : Hp) : V → Option V
  | .agg vs => match allSome (conv1 n hp) vs with
    | some us => some (.agg us)
    | none => none
  | v => conv1 n hp v
def settV (n : Nat) (hp : Hp) : V → Option V
  | .tup vs => match allSome (conv2 n hp) vs with
    | some us => some (.tup us)
    | none => none
  | .agg vs => match allSome (conv1 n hp) vs with
    | some us => some (.agg us)
    | none => none
  | v => conv1 n hp v
def ids1 (n : Nat) (hp : Hp) (v : V) : List Nat := match V.flat v with
  | true => []
  | false => idsV n hp v
def ids2 (n : Nat) (hp : Hp) : V → List Nat
  | .agg vs => vs.flatMap (ids1 n hp)
  | v => ids1 n hp v
def idsC (n : Nat) (hp : Hp) : V → List Nat
  | .tup vs => vs.flatMap (ids2 n hp)
  | .agg vs => vs.flatMap (ids1 n hp)
  | v => ids1 n hp v
def convE (n : Nat) (hp : Hp) : AEnd → Option AEnd
  | .ret v => match settV n hp v with
    | some u => some (.ret u)
    | none => none
  | .pan v => match settV n hp v with
    | some u => some (.pan u)
    | none => none
def idsE (n : Nat) (hp : Hp) : AEnd → List Nat
  | .ret v => idsC n hp v
  | .pan v => idsC n hp v
def convB (n : Nat) (hp : Hp) : Blk → Option Blk
  | .cells cs => match allSome (conv1 n hp) cs with
    | some us => some (.cells us)
    | none => none
  | b => match b.flat with
    | true => some b
    | false => none
def idsB (n : Nat) (hp : Hp) : Blk → List Nat
  | .cells cs => cs.flatMap (ids1 n hp)
  | _ => []
section
variable {P : Program} {w0 : Base} {F : Nat → Prop} {G : Nat} {ro rv : RO} {ρ : Ren} {hp : Hp} {w : World} {bs : List Nat} {bl : List Blk}
theorem ids1_own {n : Nat} {v : V} {i : Nat} (h : i ∈ ids1 n hp v) : ∃ b, hp.m.get i = some b := by
  unfold ids1 at h
  split at h
  · cases h
  · exact idsV_own h
theorem flat1_own {n : Nat} {vs : List V} {i : Nat} (h : i ∈ vs.flatMap (ids1 n hp)) : ∃ b, hp.m.get i = some b := by
  obtain ⟨c, _, hc⟩ := List.mem_flatMap.1 h
  exact ids1_own hc
theorem ids2_own {n : Nat} {v : V} {i : Nat} (h : i ∈ ids2 n hp v) : ∃ b, hp.m.get i = some b := by
  unfold ids2 at h
  split at h
  · exact flat1_own h
  · exact ids1_own h
theorem idsC_own {n : Nat} {v : V} {i : Nat} (h : i ∈ idsC n hp v) : ∃ b, hp.m.get i = some b := by
  unfold idsC at h
  split at h
  · obtain ⟨c, _, hc⟩ := List.mem_flatMap.1 h
    exact ids2_own hc
  · exact flat1_own h
  · exact ids1_own h
theorem idsE_own {n : Nat} {e : AEnd} {i : Nat} (h : i ∈ idsE n hp e) : ∃ b, hp.m.get i = some b := by
  cases e <;> exact idsC_own h
theorem idsB_own {n : Nat} {b : Blk} {i : Nat} (h : i ∈ idsB n hp b) : ∃ b, hp.m.get i = some b := by
  unfold idsB at h
  split at h
  · exact flat1_own h
  · cases h
theorem conv1_sound (hr : Rel w0 F G ro ρ hp w) {n : Nat} {v u : V} {x : Value} {ids : List Nat} (h : conv1 n hp v = some u) (hx : VR ρ v x) (hi : ∀ i ∈ ids1 n hp v, i ∈ ids) : V.flat u = true ∧ VR ⟨ρ.f, Hn ρ w ids⟩ u x := by
  unfold conv1 at h
  unfold ids1 at hi
  split at h
  · rename_i hf
    injection h with h; subst h
    exact ⟨hf, flat_mono (fun B l hB => Hn_old hB) _ _ hf hx⟩
  · rename_i hf
    rw [hf] at hi
    split at h <;> try contradiction
    rename_i d hd
    injection h with h; subst h
    exact ⟨rfl, deepV_sound hr n v x d hd hx hi⟩
theorem convs_sound (hr : Rel w0 F G ro ρ hp w) {n : Nat} {ids : List Nat} : ∀ {vs us : List V} {l : List Value}, allSome (conv1 n hp) vs = some us → VRs ρ vs l → (∀ i ∈ vs.flatMap (ids1 n hp), i ∈ ids) → flats us = true ∧ VRs ⟨ρ.f, Hn ρ w ids⟩ us l
  | [], us, l, h, hv, _ => by injection h with h; subst h; exact ⟨rfl, hv⟩
  | v :: vs, us, l, h, ⟨x, xs, h1, h2, h3⟩, hi => by
    unfold allSome at h
    split at h <;> try contradiction
    rename_i u hu
    split at h <;> try contradiction
    rename_i r hrr
    injection h with h; subst h
    obtain ⟨g1, g2⟩ := conv1_sound hr hu h2 fun i hii => hi i (by simp [hii])
    obtain ⟨g3, g4⟩ := convs_sound hr hrr h3 fun i hii => hi i (by rw [List.flatMap_cons]; exact List.mem_append_right _ hii)
    exact ⟨by simp only [flats, g1, g3, Bool.and_self], x, xs, h1, g2, g4⟩
theorem conv2_sound (hr : Rel w0 F G ro ρ hp w) {n : Nat} {v u : V} {x : Value} {ids : List Nat} (h : conv2 n hp v = some u) (hx : VR ρ v x) (hi : ∀ i ∈ ids2 n hp v, i ∈ ids) : V.flat u = true ∧ VR ⟨ρ.f, Hn ρ w ids⟩ u x := by
  unfold conv2 at h
  split at h
  · split at h <;> try contradiction
    rename_i us hus
    injection h with h; subst h
    obtain ⟨l, rfl, hl⟩ := hx
    obtain ⟨g1, g2⟩ := convs_sound hr hus hl hi
    exact ⟨g1, l, rfl, g2⟩
  · rename_i v h1
    refine conv1_sound hr h hx fun i hii => hi i ?_
    unfold ids2
    split
    · exact absurd rfl (h1 _)
    · exact hii
theorem convs2_sound (hr : Rel w0 F G ro ρ hp w) {n : Nat} {ids : List Nat} : ∀ {vs us : List V} {l : List Value}, allSome (conv2 n hp) vs = some us → VRs ρ vs l → (∀ i ∈ vs.flatMap (ids2 n hp), i ∈ ids) → flats us = true ∧ VRs ⟨ρ.f, Hn ρ w ids⟩ us l
  | [], us, l, h, hv, _ => by injection h with h; subst h; exact ⟨rfl, hv⟩
  | v :: vs, us, l, h, ⟨x, xs, h1, h2, h3⟩, hi => by
    unfold allSome at h
    split at h <;> try contradiction
    rename_i u hu
    split at h <;> try contradiction
    rename_i r hrr
    injection h with h; subst h
    obtain ⟨g1, g2⟩ := conv2_sound hr hu h2 fun i hii => hi i (by simp [hii])
    obtain ⟨g3, g4⟩ := convs2_sound hr hrr h3 fun i hii => hi i (by rw [List.flatMap_cons]; exact List.mem_append_right _ hii)
    exact ⟨by simp only [flats, g1, g3, Bool.and_self], x, xs, h1, g2, g4⟩
theorem settV_sound (hr : Rel w0 F G ro ρ hp w) {n : Nat} {v u : V} {x : Value} {ids : List Nat} (h : settV n hp v = some u) (hx : VR ρ v x) (hi : ∀ i ∈ idsC n hp v, i ∈ ids) : V.flat u = true ∧ VR ⟨ρ.f, Hn ρ w ids⟩ u x := by
  unfold settV at h
  split at h
  · split at h <;> try contradiction
    rename_i us hus
    injection h with h; subst h
    obtain ⟨l, rfl, hl⟩ := hx
    obtain ⟨g1, g2⟩ := convs2_sound hr hus hl hi
    exact ⟨g1, l, rfl, g2⟩
  · split at h <;> try contradiction
    rename_i us hus
    injection h with h; subst h
    obtain ⟨l, rfl, hl⟩ := hx
    obtain ⟨g1, g2⟩ := convs_sound hr hus hl hi
    exact ⟨g1, l, rfl, g2⟩
  · rename_i v h1 h2
    refine conv1_sound hr h hx fun i hii => hi i ?_
    unfold idsC
    split
    · exact absurd rfl (h1 _)
    · exact absurd rfl (h2 _)
    · exact hii
theorem convB_sound (hr : Rel w0 F G ro ρ hp w) {n : Nat} {b c : Blk} {o : Obj} {tot : Nat} {ids : List Nat} (h : convB n hp b = some c) (hb : BR ρ tot b o) (hi : ∀ i ∈ idsB n hp b, i ∈ ids) : c.flat = true ∧ BR ⟨ρ.f, Hn ρ w ids⟩ tot c o := by
  unfold convB at h
  split at h
  · split at h <;> try contradiction
    rename_i us hus
    injection h with h; subst h
    obtain ⟨l, t, fz, h1, h2, h3⟩ := hb
    obtain ⟨g1, g2⟩ := convs_sound hr hus h2 hi
    exact ⟨g1, l, t, fz, h1, g2, h3⟩
  · split at h <;> try contradiction
    rename_i hf
    injection h with h; subst h
    exact ⟨hf, BR_flat (fun B l hB => Hn_old hB) _ _ hf hb⟩
/-- The blocks, one's own, are those; as they are told. -/
def LiesF (hp : Hp) (bs : List Nat) (bl : List Blk) : Prop := ∀ (i b : Nat), bs[i]? = some b → ∃ c d, hp.m.get b = some c ∧ bl[i]? = some d ∧ d.flat = true ∧ ∀ (ρ : Ren) tot o, BR ρ tot c o → BR ρ tot d o
def RoF (G : Nat) (ro : RO) : Prop := ∀ id b, ro id = some b → id < G ∧ b.flat = true
theorem Rel.ownF' (hr : Rel w0 F G ro ρ hp w) (hsub : ∀ id b, rv id = some b → ro id = some b) (hro : RoF G rv) (hl : LiesF hp bs bl) (hlen : bs.length = bl.length) (hnd : bs.Nodup) (lim : Nat) :
    Rel ⟨w, renL ρ G bs, G + bl.length⟩ (ownF ρ bs) G rv (renL ρ G bs) (hpL G lim bl) w := by
  have key : ∀ id b, (hpL G lim bl).at rv id = some b → (∃ i c : Nat, id = G + i ∧ bs[i]? = some c ∧ bl[i]? = some b ∧ (hpL G lim bl).m.get id = some b) ∨ (id < G ∧ rv id = some b ∧ (hpL G lim bl).m.get id = none) := fun id b h => by
    rcases at_split h with h1 | ⟨h1, h2⟩
    · have h1' := h1
      simp only [hpL, rowT_get] at h1
      split at h1
      · rename_i hc
        obtain ⟨c1, c2⟩ := hc
        rw [← hlen] at c2
        obtain ⟨c, hcc⟩ : ∃ c, bs[id - G]? = some c := ⟨bs[id - G], by simp [c2]⟩
        exact .inl ⟨id - G, c, by omega, hcc, h1, h1'⟩
      · cases h1
    · exact .inr ⟨(hro id b h2).1, h2, h1⟩
  have ctx : ∀ id b, (hpL G lim bl).at rv id = some b → ∀ B t, renL ρ G bs id = some (B, t) → ∃ id' c, hp.at ro id' = some c ∧ ρ id' = some (B, t) ∧ ((id < G ∧ id' = id ∧ (∃ c, ro id = some c) ∧ (hpL G lim bl).m.get id = none) ∨ (∃ i : Nat, id = G + i ∧ bs[i]? = some id' ∧ ∃ d, hp.m.get id' = some d)) := fun id b h B t hB => by
    rcases key id b h with ⟨i, c, rfl, h1, h2, _⟩ | ⟨h1, h2, h3⟩
    · rw [renL_own h1] at hB
      obtain ⟨d, e, k1, k2, k3⟩ := hl i c h1
      exact ⟨c, d, at_get k1, hB, .inr ⟨i, rfl, h1, d, k1⟩⟩
    · rw [renL_lt h1] at hB
      exact ⟨id, b, hr.at_ro (hsub id b h2), hB, .inl ⟨h1, rfl, ⟨b, hsub id b h2⟩, h3⟩⟩
  refine ⟨fun id b h => ?_, fun id id' b b' B t t' h h' hB hB' => ?_, fun id b h => ?_, fun id h1 h2 => ?_, fun _ _ _ => rfl, Nat.le_refl _, rfl, rfl, rfl, fun g hg => ?_, fun id x h => .inl h, Nat.le_refl _, hr.fz.keep, fun id b B t h hB => ?_, fun B l h => .inl h⟩
  · rcases key id b h with ⟨i, c, rfl, h1, h2, _⟩ | ⟨h1, h2, h3⟩
    · obtain ⟨d, e, k1, k2, k3, k4⟩ := hl i c h1
      rw [h2] at k2; injection k2 with k2; subst k2
      obtain ⟨B, t, o, g1, g2, g3, g4⟩ := hr.blk c d (at_get k1)
      exact ⟨B, t, o, by rw [renL_own h1]; exact g1, g2, BR_flat (ρ := ρ) (ρ' := renL ρ G bs) (fun _ _ h => h) _ _ k3 (k4 ρ _ _ g3), .inr (.inl ⟨i, c, t, h1, g1⟩)⟩
    · obtain ⟨B, t, o, g1, g2, g3, g4⟩ := hr.blk id b (hr.at_ro (hsub id b h2))
      exact ⟨B, t, o, by rw [renL_lt h1]; exact g1, g2, BR_flat (ρ := ρ) (ρ' := renL ρ G bs) (fun _ _ h => h) _ _ (hro id b h2).2 g3, .inl h3⟩
  · obtain ⟨i1, c1, k1, k2, k3⟩ := ctx id b h B t hB
    obtain ⟨i2, c2, k4, k5, k6⟩ := ctx id' b' h' B t' hB'
    rcases hr.inj _ _ _ _ _ _ _ k1 k4 k2 k5 with e | ⟨e1, e2⟩
    · subst e
      rcases k3 with ⟨g1, g2, ⟨c, g3⟩, g4⟩ | ⟨i, g1, g2, d, g3⟩ <;> rcases k6 with ⟨g5, g6, ⟨c', g7⟩, g8⟩ | ⟨j, g5, g6, d', g7⟩
      · exact .inl (g2.symm.trans g6)
      · exfalso; subst g2; rw [hr.sep _ _ g7] at g3; cases g3
      · exfalso; subst g6; rw [hr.sep _ _ g3] at g7; cases g7
      · left
        have hi : i < bs.length := (List.getElem?_eq_some_iff.1 g2).1
        have hij : i = j := (List.getElem?_inj hi hnd).1 (g2.trans g6.symm)
        omega
    · rcases k3 with ⟨_, _, _, g4⟩ | ⟨_, _, _, d, g3⟩
      · rcases k6 with ⟨_, _, _, g8⟩ | ⟨_, _, _, d', g7⟩
        · exact .inr ⟨g4, g8⟩
        · rw [e2] at g7; cases g7
      · rw [e1] at g3; cases g3
  · have h := h
    simp only [hpL, rowT_get] at h
    split at h
    · rename_i hc
      cases hq : rv id with
      | none => rfl
      | some x => have := (hro id x hq).1; omega
    · cases h
  · simp only [hpL] at h1
    unfold renL
    simp only
    rw [if_neg (by omega), List.getElem?_eq_none (by omega)]
  · rw [renL_lt hg]; exact hr.glob g hg
  · obtain ⟨id', c, _, h2, h3⟩ := ctx id b (at_get h) B t hB
    rcases h3 with ⟨_, _, _, h4⟩ | ⟨_, _, _, d, h4⟩
    · rw [h] at h4; cases h4
    · exact hr.fz.sep _ _ _ _ h4 h2
/-- A call on blocks of its own; what it leaves does not change any more. -/
theorem ownCallF {t : T (AEnd × Hp)} {f lim n : Nat} {args argsL : List V} {e e' : AEnd} {hp' : Hp} {bl' : List Blk} (hc : ∀ r, t.run = some r → ∀ (w0 : Base) (F : Nat → Prop) (ρ : Ren) (w : World) (l : List Value), Rel w0 F G rv ρ (hpL G lim bl) w → VRs ρ argsL l → (∀ w, (callFunc f ⟨l⟩).run P w = .ok (.enter f ⟨l⟩) w) ∧ Calls P f ⟨l⟩ w (EndR w0 F G rv ρ r)) (hrun : t.run = some (e, hp'))
    (hsub : ∀ id b, rv id = some b → ro id = some b) (hro : RoF G rv) (hl : LiesF hp bs bl) (hlen : bs.length = bl.length) (hlen' : bs.length = bl'.length) (hnd : bs.Nodup) (he : convE n hp' e = some e') {ids : List Nat} (hids : ∀ i ∈ ids, ∃ b, hp'.m.get i = some b) (hie : ∀ i ∈ idsE n hp' e, i ∈ ids)
    (hb' : ∀ (i : Nat) b, bl'[i]? = some b → G + i ∉ ids ∧ b.flat = true ∧ ∃ c d, hp'.m.get (G + i) = some c ∧ convB n hp' c = some d ∧ (∀ j ∈ idsB n hp' c, j ∈ ids) ∧ ∀ (ρ : Ren) tot o, BR ρ tot d o → BR ρ tot b o)
    {l : List Value} (hr : Rel w0 F G ro ρ hp w) (hvl : VRs ρ args l) (harg : VRs ρ args l → VRs (renL ρ G bs) argsL l) :
    (∀ w, (callFunc f ⟨l⟩).run P w = .ok (.enter f ⟨l⟩) w) ∧ Calls P f ⟨l⟩ w (EndR w0 F G ro ρ (e', putL hp bs bl')) := by
  have hr1 := hr.ownF' hsub hro hl hlen hnd lim
  obtain ⟨g1, g2⟩ := hc _ hrun _ _ _ w l hr1 (harg hvl)
  refine ⟨g1, g2.mono fun en w' ⟨ρ', k1, k2, k3⟩ => ?_⟩
  have k2 : Rel ⟨w, renL ρ G bs, G + bl.length⟩ (ownF ρ bs) G rv ρ' hp' w' := k2
  have fr := k2.freeze (ids := ids) hids
  have hH : ∀ B l, ρ.H B = some l → Hn ρ' w' ids B = some l := fun B l h => Hn_old (k1.leH B l h)
  have hle : ρ.le ⟨ρ.f, Hn ρ' w' ids⟩ := ⟨fun _ _ h => h, hH⟩
  have ownB : ∀ i b : Nat, bs[i]? = some b → ∃ c, hp.m.get b = some c := fun i b h => by
    obtain ⟨c, d, h1, _⟩ := hl i b h
    exact ⟨c, h1⟩
  have notOwn : ∀ id b B t, hp.at ro id = some b → ρ id = some (B, t) → (∀ i : Nat, bs[i]? ≠ some id) → ¬ ownF ρ bs B := fun id b B t h1 h2 h3 ⟨i, b', t', q1, q2⟩ => by
    obtain ⟨c, hcc⟩ := ownB i b' q1
    have := (hr.inj _ _ _ _ _ _ _ h1 (at_get hcc) h2 q2).resolve_right (fun q => by rw [hcc] at q; cases q.2)
    subst this
    exact h3 i q1
  have at' : ∀ id b, (putL hp bs bl').at ro id = some b → (∃ i : Nat, bs[i]? = some id ∧ bl'[i]? = some b) ∨ (hp.at ro id = some b ∧ (∀ i : Nat, bs[i]? ≠ some id) ∧ (putL hp bs bl').m.get id = hp.m.get id) := fun id b h => by
    cases hk : look id bs bl' with
    | some c =>
      simp only [Hp.at, putL_get, hk, Option.some.injEq] at h
      subst h
      exact .inl (look_some hk)
    | none =>
      refine .inr ⟨?_, look_none hlen' hk, by rw [putL_get, hk]⟩
      simp only [Hp.at, putL_get, hk] at h
      exact h
  have known : ∀ id b, (putL hp bs bl').at ro id = some b → ∃ c, hp.at ro id = some c := fun id b h => by
    rcases at' id b h with ⟨i, h1, _⟩ | ⟨h1, _⟩
    · obtain ⟨c, hcc⟩ := ownB i id h1
      exact ⟨c, at_get hcc⟩
    · exact ⟨b, h1⟩
  have hrel : Rel w0 F G ro ⟨ρ.f, Hn ρ' w' ids⟩ (putL hp bs bl') w' := by
    refine ⟨fun id b h => ?_, fun id id' b b' B t t' h h' hB hB' => ?_, fun id b h => ?_, fun id h1 h2 => ?_, fun B hB hF => ?_, Nat.le_trans hr.size k2.size, k2.tape.trans hr.tape, k2.os.trans hr.os, k2.output.trans hr.output, hr.glob, fun id x hx => ?_, ?_, fr.fz.keep, fun id b B t h hB => ?_, fun B l h => ?_⟩
    · rcases at' id b h with ⟨i, h1, h2⟩ | ⟨h1, h2, h3⟩
      · obtain ⟨_, q1, c, d, q2, q3, q4, q5⟩ := hb' i b h2
        obtain ⟨c0, hc0⟩ := ownB i id h1
        obtain ⟨B, t, o, e1, e2, e3, e4⟩ := hr.blk id c0 (at_get hc0)
        obtain ⟨B1, t1, o1, r1, r2, r3, r4⟩ := k2.blk (G + i) c (at_get q2)
        have := k1 (G + i) (B, t) (by rw [renL_own h1]; exact e1)
        rw [r1] at this
        obtain ⟨rfl, rfl⟩ := Prod.mk.inj (Option.some.inj this)
        obtain ⟨s1, s2⟩ := convB_sound k2 q3 r3 q4
        exact ⟨B1, t1, o1, e1, r2, BR_flat (ρ := ⟨ρ'.f, Hn ρ' w' ids⟩) (ρ' := ⟨ρ.f, Hn ρ' w' ids⟩) (fun _ _ h => h) _ _ q1 (q5 _ _ _ s2), .inr (e4.resolve_left (by rw [hc0]; simp))⟩
      · obtain ⟨B, t, o, e1, e2, e3, e4⟩ := hr.blk id b h1
        refine ⟨B, t, o, e1, ?_, BR.mono hle _ _ e3, by rw [h3]; exact e4⟩
        rw [k2.frame B (lt_of_heap e2) (notOwn id b B t h1 e1 h2)]
        exact e2
    · obtain ⟨c, hc1⟩ := known id b h
      obtain ⟨c', hc2⟩ := known id' b' h'
      have ne : ∀ k, hp.m.get k = none → (putL hp bs bl').m.get k = none := fun k hk => by
        rw [putL_get]
        cases hq : look k bs bl' with
        | none => exact hk
        | some c0 =>
          obtain ⟨i, h1, _⟩ := look_some hq
          obtain ⟨c2, hc2⟩ := ownB i k h1
          rw [hk] at hc2; cases hc2
      exact (hr.inj _ _ _ _ _ _ _ hc1 hc2 hB hB').imp (fun e => e) fun q => ⟨ne _ q.1, ne _ q.2⟩
    · rw [putL_get] at h
      cases hk : look id bs bl' with
      | some c =>
        obtain ⟨i, h1, _⟩ := look_some hk
        obtain ⟨c, hcc⟩ := ownB i id h1
        exact hr.sep _ _ hcc
      | none => rw [hk] at h; exact hr.sep _ _ h
    · rw [putL_nxt.1] at h1; rw [putL_nxt.2] at h2
      exact hr.fresh id h1 h2
    · rw [k2.frame B (Nat.lt_of_lt_of_le hB hr.size) ?_]
      · exact hr.frame B hB hF
      · intro ⟨i, b, t, q1, q2⟩
        obtain ⟨c, hcc⟩ := ownB i b q1
        obtain ⟨B1, t1, o1, e1, _, _, e4⟩ := hr.blk b c (at_get hcc)
        rw [q2] at e1
        obtain ⟨rfl, rfl⟩ := Prod.mk.inj (Option.some.inj e1)
        rcases e4.resolve_left (by rw [hcc]; simp) with h | h
        · exact hF h
        · omega
    · rw [putL_nxt.1]; exact hr.ren id x hx
    · rw [putL_nxt.1]; exact hr.le0
    · have hB : ρ id = some (B, t) := hB
      rcases at' id b (at_get h) with ⟨i, h1, h2⟩ | ⟨h1, h2, h3⟩
      · obtain ⟨q0, q1, c, d, q2, _⟩ := hb' i b h2
        have hget : (dropL hp' ids).m.get (G + i) = some c := by
          show (hideB hp'.m ids).get (G + i) = some c
          rw [hideB_get, if_neg (fun hm => q0 (memN_iff.1 hm))]; exact q2
        exact fr.fz.sep (G + i) c B t hget (k1 (G + i) (B, t) (by rw [renL_own h1]; exact hB))
      · cases hq : Hn ρ' w' ids B with
        | none => exact hq
        | some l =>
          exfalso
          have hm : hp.m.get id = some b := by rw [← h3]; exact h
          obtain ⟨B1, t1, o, e1, e2, _, _⟩ := hr.blk id b h1
          rw [hB] at e1
          obtain ⟨rfl, rfl⟩ := Prod.mk.inj (Option.some.inj e1)
          rcases fr.fz.new B l hq with q | q | q
          · have q : ρ.H B = some l := q
            rw [hr.fz.sep _ _ _ _ hm hB] at q; cases q
          · exact notOwn id b B t h1 hB h2 q
          · have := lt_of_heap e2
            have q : w.heap.size ≤ B := q
            omega
    · rcases fr.fz.new B l h with q | q | q
      · exact hr.fz.new B l q
      · obtain ⟨i, b, t, q1, q2⟩ := q
        obtain ⟨c, hcc⟩ := ownB i b q1
        obtain ⟨B1, t1, o1, e1, _, _, e4⟩ := hr.blk b c (at_get hcc)
        rw [q2] at e1
        obtain ⟨rfl, rfl⟩ := Prod.mk.inj (Option.some.inj e1)
        exact .inr (e4.resolve_left (by rw [hcc]; simp))
      · exact .inr (.inr (Nat.le_trans hr.size q))
  refine ⟨⟨ρ.f, Hn ρ' w' ids⟩, hle, hrel, ?_⟩
  cases e with
  | ret v =>
    obtain ⟨x, h1, h2⟩ := k3
    unfold convE at he
    simp only at he
    split at he <;> try contradiction
    rename_i u hu
    injection he with he; subst he
    obtain ⟨s1, s2⟩ := settV_sound k2 hu h2 hie
    exact ⟨x, h1, flat_mono (ρ := ⟨ρ'.f, Hn ρ' w' ids⟩) (ρ' := ⟨ρ.f, Hn ρ' w' ids⟩) (fun _ _ h => h) _ _ s1 s2⟩
  | pan v =>
    obtain ⟨x, h1, h2⟩ := k3
    unfold convE at he
    simp only at he
    split at he <;> try contradiction
    rename_i u hu
    injection he with he; subst he
    obtain ⟨s1, s2⟩ := settV_sound k2 hu h2 hie
    exact ⟨x, h1, flat_mono (ρ := ⟨ρ'.f, Hn ρ' w' ids⟩) (ρ' := ⟨ρ.f, Hn ρ' w' ids⟩) (fun _ _ h => h) _ _ s1 s2⟩
end
end Go.Ev
