/- Own text: loops whose rounds start from a state that is told by its data; what a round leaves behind does not change any more. -/
import Derived.Test.YtlmacdfbdhpljaaGreatDoorSa
namespace Go.Ev
open Go.Ev.Tr
mutual
/-- Does it lead to blocks below n alone? -/
def V.low (n : Nat) : V → Bool
  | .ptr b _ => Nat.ble (b + 1) n
  | .slice b _ _ _ _ _ => Nat.ble (b + 1) n
  | .map b => Nat.ble (b + 1) n
  | .wptr b _ => Nat.ble (b + 1) n
  | .wsl b _ _ => Nat.ble (b + 1) n
  | .func _ a c => lows n a && lows n c
  | .iface _ v => V.low n v
  | .agg cs => lows n cs
  | .tup cs => lows n cs
  | _ => true
def lows (n : Nat) : List V → Bool
  | [] => true
  | c :: cs => V.low n c && lows n cs
end
mutual
theorem low_mono {ρ ρ' : Ren} {n : Nat} (h' : ∀ id x, ρ id = some x → id < n → ρ' id = some x) (h : ∀ B l, ρ.H B = some l → ρ'.H B = some l) : ∀ (v : V) (x : Value), V.low n v = true → VR ρ v x → VR ρ' v x
  | .any, _, _, _ => trivial
  | .bool _, _, _, h => h
  | .sbool _, _, _, h => h
  | .int .., _, _, h => h
  | .str _, _, _, h => h
  | .ssym _, _, _, h => h
  | .nilp, _, _, h => h
  | .ptr .., _, hu, ⟨B, tot, m, h1, h2⟩ => ⟨B, tot, m, h' _ _ h1 (Nat.le_of_ble_eq_true hu), h2⟩
  | .nils, _, _, h => h
  | .slice .., _, hu, ⟨B, tot, m, len, cap, h1, h2⟩ => ⟨B, tot, m, len, cap, h' _ _ h1 (Nat.le_of_ble_eq_true hu), h2⟩
  | .nilm, _, _, h => h
  | .map _, _, hu, ⟨B, tot, h1, h2⟩ => ⟨B, tot, h' _ _ h1 (Nat.le_of_ble_eq_true hu), h2⟩
  | .func _ first cap, _, hu, ⟨f, c, h1, h2, h3⟩ => by
    simp only [V.low, Bool.and_eq_true] at hu
    exact ⟨f, c, h1, lows_mono h' h _ _ hu.1 h2, lows_mono h' h _ _ hu.2 h3⟩
  | .nilf, _, _, h => h
  | .iface _ x, _, hu, ⟨y, h1, h2⟩ => ⟨y, h1, low_mono h' h x y hu h2⟩
  | .nili, _, _, h => h
  | .agg cs, _, hu, ⟨l, h1, h2⟩ => ⟨l, h1, lows_mono h' h cs l hu h2⟩
  | .tup cs, _, hu, ⟨l, h1, h2⟩ => ⟨l, h1, lows_mono h' h cs l hu h2⟩
  | .deep d, x, _, hx => FR.mono h d x hx
  | .wptr .., _, hu, ⟨B, s, m, h1, h2⟩ => ⟨B, s, m, h' _ _ h1 (Nat.le_of_ble_eq_true hu), h2⟩
  | .wsl .., _, hu, ⟨B, s, m, l, cap, h1, h2⟩ => ⟨B, s, m, l, cap, h' _ _ h1 (Nat.le_of_ble_eq_true hu), h2⟩
theorem lows_mono {ρ ρ' : Ren} {n : Nat} (h' : ∀ id x, ρ id = some x → id < n → ρ' id = some x) (h : ∀ B l, ρ.H B = some l → ρ'.H B = some l) : ∀ (vs : List V) (l : List Value), lows n vs = true → VRs ρ vs l → VRs ρ' vs l
  | [], _, _, h => h
  | c :: cs, _, hu, ⟨x, xs, h1, h2, h3⟩ => by
    simp only [lows, Bool.and_eq_true] at hu
    exact ⟨x, xs, h1, low_mono h' h c x hu.1 h2, lows_mono h' h cs xs hu.2 h3⟩
end
def Blk.low (n : Nat) : Blk → Bool
  | .cells cs => lows n cs
  | .vec cs => lows n cs
  | .map .. => false
  | .lastv _ v => V.low n v
  | _ => true
def Ren.cut (ρ : Ren) (n0 lim : Nat) : Ren := ⟨fun id => if n0 ≤ id ∧ id < lim then none else ρ id, ρ.H⟩
theorem cut_some {ρ : Ren} {n0 lim id : Nat} {x : Nat × Nat} (h : (ρ.cut n0 lim) id = some x) : ρ id = some x ∧ ¬ (n0 ≤ id ∧ id < lim) := by
  simp only [Ren.cut] at h
  split at h
  · cases h
  · rename_i hn; exact ⟨h, hn⟩
theorem cut_low {ρ : Ren} {n0 lim id : Nat} (h : id < n0) : (ρ.cut n0 lim) id = ρ id := by
  simp only [Ren.cut]
  rw [if_neg (by omega)]
section
variable {w0 : Base} {F : Nat → Prop} {G : Nat} {ρ : Ren} {hp : Hp} {w : World}
theorem noRO_at {hp : Hp} {id : Nat} {b : Blk} (h : hp.at noRO id = some b) : hp.m.get id = some b := by
  rcases at_split h with h | ⟨_, h⟩
  · exact h
  · cases h
/-- Less is known. -/
theorem Rel.cut (hr : Rel w0 F G noRO ρ hp w) {m : Tr Blk} {n0 : Nat} (hG : G ≤ n0) (h0 : w0.nxt ≤ n0) (hn : hp.nxt ≤ hp.lim) (hm : ∀ id b, m.get id = some b → id < n0 ∧ ∃ c, hp.m.get id = some c ∧ ∀ B t o, ρ id = some (B, t) → w.heap[B]? = some o → BR (ρ.cut n0 hp.lim) t b o) :
    Rel w0 F G noRO (ρ.cut n0 hp.lim) ⟨m, n0, hp.lim⟩ w := by
  have known : ∀ id b, Hp.at noRO ⟨m, n0, hp.lim⟩ id = some b → ∃ c, id < n0 ∧ m.get id = some b ∧ hp.m.get id = some c ∧ ∀ B t o, ρ id = some (B, t) → w.heap[B]? = some o → BR (ρ.cut n0 hp.lim) t b o := fun id b h => by
    have h1 : m.get id = some b := noRO_at h
    obtain ⟨h2, c, h3, h4⟩ := hm id b h1
    exact ⟨c, h2, h1, h3, h4⟩
  refine ⟨fun id b h => ?_, fun i j b c B t t' hi hj e1 e2 => ?_, fun id b h => rfl, fun id h1 h2 => ?_, hr.frame, hr.size, hr.tape, hr.os, hr.output, fun g hg => ?_, fun id x hx => ?_, h0, hr.fz.keep, fun id b B t h1 h2 => ?_, hr.fz.new⟩
  · obtain ⟨c, h1, h2, h3, h4⟩ := known id b h
    obtain ⟨B, t, o, e1, e2, e3, e4⟩ := hr.blk id c (at_get h3)
    refine ⟨B, t, o, by rw [cut_low h1]; exact e1, e2, h4 _ _ _ e1 e2, ?_⟩
    exact .inr (e4.resolve_left (by rw [h3]; simp))
  · obtain ⟨c1, _, _, h3, _⟩ := known i b hi
    obtain ⟨c2, _, _, h4, _⟩ := known j c hj
    exact .inl ((hr.inj _ _ _ _ _ _ _ (at_get h3) (at_get h4) (cut_some e1).1 (cut_some e2).1).resolve_right fun q => by rw [h3] at q; cases q.1)
  · show (ρ.cut n0 hp.lim) id = none
    simp only [Ren.cut]
    rw [if_pos ⟨h1, h2⟩]
  · obtain ⟨t, ht⟩ := hr.glob g hg
    exact ⟨t, by rw [cut_low (by omega)]; exact ht⟩
  · obtain ⟨h1, h2⟩ := cut_some hx
    rcases hr.ren id x h1 with q | q
    · exact .inl q
    · refine .inr ⟨q.1, ?_⟩
      show id < n0
      have := q.2
      omega
  · obtain ⟨_, c, h3, _⟩ := hm id b h1
    exact hr.fz.sep _ _ _ _ h3 (cut_some h2).1
end
/-! ### kinds of data -/
inductive KS where
  | i (k : IntKind) (lo hi : Int)
  /-- the bounds are plain from without -/
  | j (k : IntKind) (lo hi : Int)
  | b
  | s
  /-- a string of one byte below 128 -/
  | c
  | d
  | p (b : Nat)
  | v
inductive SV where
  | i (n : Int)
  | b (b : Bool)
  | s (l : List UInt8)
  | d (d : Dv)
  | v (v : V)
  | nul
def decK (hp : Hp) (n0 : Nat) : KS → V → Option SV
  | .i k _ _, .int k' i => match decide (k = k') with
    | true => some (.i i.n)
    | false => none
  | .j k lo hi, .int k' i => match decide (k = k') && ile lo i.lo && ile i.hi hi with
    | true => some (.i i.n)
    | false => none
  | .b, .bool b => some (.b b)
  | .b, .sbool b => some (.b b)
  | .s, .str l => some (.s (l.map byteOf))
  | .s, .ssym l => some (.s l)
  | .s, .deep (.str l) => some (.s l)
  | .d, v => match deepV 20 hp v with
    | some d => some (.d d)
    | none => none
  | .p b, .ptr b' o => match Nat.beq b b' && isZero o && Nat.ble (b + 1) n0 with
    | true => some .nul
    | false => none
  | .v, v => match V.low n0 v with
    | true => some (.v v)
    | false => none
  | _, _ => none
def idsK (hp : Hp) : KS → V → List Nat
  | .d, v => idsV 20 hp v
  | _, _ => []
def encK : KS → SV → V
  | .i k lo hi, .i n => .int k ⟨n, lo, hi⟩
  | .j k lo hi, .i n => .int k ⟨n, lo, hi⟩
  | .b, .b b => .sbool b
  | .s, .s l => .ssym l
  | .c, .i n => .str [⟨n, 0, 127⟩]
  | .d, .d d => .deep d
  | .p b, _ => .ptr b (I.lit 0)
  | .v, .v v => v
  | _, _ => .any
def okK : KS → SV → Bool
  | .i _ lo hi, .i n => decide (lo ≤ n) && decide (n ≤ hi)
  | .s, .s l => decide (l.length ≤ 281474976710656)
  | _, _ => true
section
variable {w0 : Base} {F : Nat → Prop} {G : Nat} {ρ : Ren} {hp : Hp} {w : World} {ro : RO}
theorem encK_sound (hr : Rel w0 F G ro ρ hp w) {n0 : Nat} {K : KS} {v : V} {u : SV} {x : Value} {ids : List Nat} (h : decK hp n0 K v = some u) (hok : okK K u = true) (hx : VR ρ v x) (hi : ∀ i ∈ idsK hp K v, i ∈ ids) : V.low n0 (encK K u) = true ∧ VR ⟨ρ.f, Hn ρ w ids⟩ (encK K u) x := by
  have hle : ρ.le ⟨ρ.f, Hn ρ w ids⟩ := ⟨fun _ _ h => h, fun _ _ h => Hn_old h⟩
  unfold decK at h
  split at h
  · split at h <;> try contradiction
    rename_i hk
    have hk := of_decide_eq_true hk
    injection h with h; subst h; subst hk
    simp only [okK, Bool.and_eq_true, decide_eq_true_eq] at hok
    obtain ⟨m, rfl, hm⟩ := hx
    refine ⟨rfl, m, rfl, hm.1, ?_, ?_⟩
    · have := hm.1; simp only at *; omega
    · have := hm.1; simp only at *; omega
  · split at h <;> try contradiction
    rename_i hk
    simp only [Bool.and_eq_true, decide_eq_true_eq, ile_iff] at hk
    obtain ⟨⟨hk, k1⟩, k2⟩ := hk
    injection h with h; subst h; subst hk
    obtain ⟨m, rfl, hm⟩ := hx
    refine ⟨rfl, m, rfl, hm.1, ?_, ?_⟩
    · have := hm.2; simp only at *; omega
    · have := hm.2; simp only at *; omega
  · injection h with h; subst h; exact ⟨rfl, hx⟩
  · injection h with h; subst h; exact ⟨rfl, hx⟩
  · injection h with h; subst h
    simp only [okK, decide_eq_true_eq] at hok
    exact ⟨rfl, hx.1, hok⟩
  · injection h with h; subst h; exact ⟨rfl, hx⟩
  · injection h with h; subst h
    simp only [okK, decide_eq_true_eq] at hok
    refine ⟨rfl, ?_, hok⟩
    have hx : FR ρ.H (.str _) x := hx
    simp only [FR] at hx; exact hx.1
  · split at h <;> try contradiction
    rename_i d hd
    injection h with h; subst h
    exact ⟨rfl, deepV_sound hr 20 _ _ _ hd hx hi⟩
  · split at h <;> try contradiction
    rename_i hk
    injection h with h; subst h
    simp only [Bool.and_eq_true] at hk
    obtain ⟨⟨h1, h2⟩, h3⟩ := hk
    have h1 := Nat.eq_of_beq_eq_true h1
    subst h1
    obtain ⟨B, tot, m, e1, rfl, e3⟩ := hx
    refine ⟨h3, B, tot, m, e1, rfl, ?_⟩
    simp only [isZero, Bool.and_eq_true, ieq_iff] at h2
    have := e3.2
    have e : m = 0 := by omega
    rw [e]; exact IR.lit 0
  · split at h <;> try contradiction
    rename_i hl
    injection h with h; subst h
    exact ⟨hl, VR.mono hle _ _ hx⟩
  · cases h
end
abbrev SD := List SV × List (List SV)
structure LSpec where
  ts : List (Nat × KS)
  bs : List (Nat × List KS)
  nxt : Nat
  lim : Nat
def decCs (hp : Hp) (n0 : Nat) : List KS → List V → Option (List SV)
  | [], [] => some []
  | K :: Ks, v :: vs => match decK hp n0 K v with
    | some u => match decCs hp n0 Ks vs with
      | some us => some (u :: us)
      | none => none
    | none => none
  | _, _ => none
def idsCs (hp : Hp) : List KS → List V → List Nat
  | K :: Ks, v :: vs => idsK hp K v ++ idsCs hp Ks vs
  | _, _ => []
def encCs : List KS → List SV → List V
  | K :: Ks, u :: us => encK K u :: encCs Ks us
  | _, _ => []
def okCs : List KS → List SV → Bool
  | K :: Ks, u :: us => okK K u && okCs Ks us
  | _, _ => true
def decB1 (hp : Hp) (n0 : Nat) (Ks : List KS) : Blk → Option (List SV)
  | .cells cs => decCs hp n0 Ks cs
  | _ => none
def idsB1 (hp : Hp) (Ks : List KS) : Blk → List Nat
  | .cells cs => idsCs hp Ks cs
  | _ => []
def decTs (hp : Hp) (n0 : Nat) (m : Tr V) : List (Nat × KS) → Option (List SV)
  | [] => some []
  | (t, K) :: r => match decK hp n0 K (tmpV m t) with
    | some u => match decTs hp n0 m r with
      | some us => some (u :: us)
      | none => none
    | none => none
def idsTs (hp : Hp) (m : Tr V) : List (Nat × KS) → List Nat
  | [] => []
  | (t, K) :: r => idsK hp K (tmpV m t) ++ idsTs hp m r
def encTs : List (Nat × KS) → List SV → Tr V
  | (t, K) :: r, u :: us => (encTs r us).set t (some (encK K u))
  | _, _ => .lf
def okTs : List (Nat × KS) → List SV → Bool
  | (_, K) :: r, u :: us => okK K u && okTs r us
  | _, _ => true
def decBs (hp : Hp) (n0 : Nat) : List (Nat × List KS) → Option (List (List SV))
  | [] => some []
  | (b, Ks) :: r => match hp.m.get b with
    | some c => match decB1 hp n0 Ks c with
      | some u => match decBs hp n0 r with
        | some us => some (u :: us)
        | none => none
      | none => none
    | none => none
def idsBs (hp : Hp) : List (Nat × List KS) → List Nat
  | [] => []
  | (b, Ks) :: r => (match hp.m.get b with
    | some c => idsB1 hp Ks c
    | none => []) ++ idsBs hp r
def encBs : List (Nat × List KS) → List (List SV) → Tr Blk
  | (b, Ks) :: r, u :: us => (encBs r us).set b (some (.cells (encCs Ks u)))
  | _, _ => .lf
def okBs : List (Nat × List KS) → List (List SV) → Bool
  | (_, Ks) :: r, u :: us => okCs Ks u && okBs r us
  | _, _ => true
def apartBs (n0 : Nat) (ids : List Nat) : List (Nat × List KS) → Bool
  | [] => true
  | (b, _) :: r => !memN b ids && Nat.ble (b + 1) n0 && apartBs n0 ids r
def noDfr : List ADef → Bool
  | [] => true
  | _ => false
def encSt (sp : LSpec) (d : SD) : St := ⟨encTs sp.ts d.1, [], ⟨encBs sp.bs d.2, sp.nxt, sp.lim⟩⟩
def okSt (sp : LSpec) (d : SD) : Bool := okTs sp.ts d.1 && okBs sp.bs d.2
def idsSt (sp : LSpec) (st : St) : List Nat := idsTs st.hp st.tmps sp.ts ++ idsBs st.hp sp.bs
def decSt (sp : LSpec) (st : St) : Option SD := match noDfr st.dfr && apartBs sp.nxt (idsSt sp st) sp.bs && Nat.ble sp.nxt st.hp.nxt && Nat.ble st.hp.nxt st.hp.lim && Nat.beq st.hp.lim sp.lim with
  | true => match decTs st.hp sp.nxt st.tmps sp.ts with
    | some us => match decBs st.hp sp.nxt sp.bs with
      | some bs => some (us, bs)
      | none => none
    | none => none
  | false => none
section
variable {P : Program} {E : Env} {w0 : Base} {F : Nat → Prop} {G : Nat} {ρ : Ren} {hp : Hp} {w : World} {ro : RO} {st : St} {a : Act} {nt : Nat}
theorem encCs_sound (hr : Rel w0 F G ro ρ hp w) {n0 : Nat} {ids : List Nat} : ∀ {Ks : List KS} {vs : List V} {us : List SV} {l : List Value}, decCs hp n0 Ks vs = some us → okCs Ks us = true → VRs ρ vs l → (∀ i ∈ idsCs hp Ks vs, i ∈ ids) → lows n0 (encCs Ks us) = true ∧ VRs ⟨ρ.f, Hn ρ w ids⟩ (encCs Ks us) l
  | [], [], us, l, h, _, hv, _ => by injection h with h; subst h; exact ⟨rfl, hv⟩
  | [], _ :: _, _, _, h, _, _, _ => by cases h
  | _ :: _, [], _, _, h, _, _, _ => by cases h
  | K :: Ks, v :: vs, us, l, h, hok, ⟨x, xs, h1, h2, h3⟩, hi => by
    unfold decCs at h
    split at h <;> try contradiction
    rename_i u hu
    split at h <;> try contradiction
    rename_i us' hus
    injection h with h; subst h
    simp only [okCs, Bool.and_eq_true] at hok
    obtain ⟨g1, g2⟩ := encK_sound hr hu hok.1 h2 fun i h => hi i (List.mem_append_left _ h)
    obtain ⟨g3, g4⟩ := encCs_sound hr hus hok.2 h3 fun i h => hi i (List.mem_append_right _ h)
    refine ⟨?_, x, xs, h1, g2, g4⟩
    simp only [encCs, lows, Bool.and_eq_true]
    exact ⟨g1, g3⟩
theorem encTs_get (hr : Rel w0 F G ro ρ hp w) {n0 : Nat} {ids : List Nat} {m : Tr V} {t : Nat} {c : V} : ∀ {l : List (Nat × KS)} {us : List SV}, decTs hp n0 m l = some us → okTs l us = true → (∀ i ∈ idsTs hp m l, i ∈ ids) → (encTs l us).get t = some c →
    V.low n0 c = true ∧ ∀ x, VR ρ (tmpV m t) x → VR ⟨ρ.f, Hn ρ w ids⟩ c x
  | [], us, h, _, _, hc => by injection h with h; subst h; cases hc
  | (t', K) :: r, us, h, hok, hi, hc => by
    unfold decTs at h
    split at h <;> try contradiction
    rename_i u hu
    split at h <;> try contradiction
    rename_i us' hus
    injection h with h; subst h
    simp only [okTs, Bool.and_eq_true] at hok
    simp only [encTs, Tr.get_set] at hc
    split at hc
    · rename_i e; subst e
      injection hc with hc; subst hc
      refine ⟨?_, fun x hx => (encK_sound hr hu hok.1 hx fun i h => hi i (List.mem_append_left _ h)).2⟩
      unfold decK at hu
      split at hu
      · split at hu <;> try contradiction
        injection hu with hu; subst hu; rfl
      · split at hu <;> try contradiction
        injection hu with hu; subst hu; rfl
      · injection hu with hu; subst hu; rfl
      · injection hu with hu; subst hu; rfl
      · injection hu with hu; subst hu; rfl
      · injection hu with hu; subst hu; rfl
      · injection hu with hu; subst hu; rfl
      · split at hu <;> try contradiction
        injection hu with hu; subst hu; rfl
      · split at hu <;> try contradiction
        rename_i hk
        injection hu with hu; subst hu
        simp only [Bool.and_eq_true] at hk
        exact hk.2
      · split at hu <;> try contradiction
        rename_i hl
        injection hu with hu; subst hu; exact hl
      · cases hu
    · exact encTs_get hr hus hok.2 (fun i h => hi i (List.mem_append_right _ h)) hc
theorem encBs_get (hr : Rel w0 F G ro ρ hp w) {n0 : Nat} {ids : List Nat} {id : Nat} {b : Blk} : ∀ {l : List (Nat × List KS)} {us : List (List SV)}, decBs hp n0 l = some us → okBs l us = true → apartBs n0 ids l = true → (∀ i ∈ idsBs hp l, i ∈ ids) → (encBs l us).get id = some b →
    id < n0 ∧ id ∉ ids ∧ ∃ c, hp.m.get id = some c ∧ ∀ tot o, BR ρ tot c o → b.low n0 = true ∧ BR ⟨ρ.f, Hn ρ w ids⟩ tot b o
  | [], us, h, _, _, _, hc => by injection h with h; subst h; cases hc
  | (b', Ks) :: r, us, h, hok, hap, hi, hc => by
    unfold decBs at h
    split at h <;> try contradiction
    rename_i c hcg
    split at h <;> try contradiction
    rename_i u hu
    split at h <;> try contradiction
    rename_i us' hus
    injection h with h; subst h
    simp only [okBs, Bool.and_eq_true] at hok
    simp only [apartBs, Bool.and_eq_true, Bool.not_eq_true'] at hap
    simp only [encBs, Tr.get_set] at hc
    simp only [idsBs, hcg] at hi
    split at hc
    · rename_i e; subst e
      injection hc with hc; subst hc
      refine ⟨Nat.le_of_ble_eq_true hap.1.2, fun hm => ?_, c, hcg, ?_⟩
      · rw [memN_iff.2 hm] at hap; cases hap.1.1
      unfold decB1 at hu
      split at hu <;> try contradiction
      rintro tot o ⟨l, t, fz, rfl, h2, h3⟩
      obtain ⟨g1, g2⟩ := encCs_sound hr hu hok.1 h2 fun i h => hi i (List.mem_append_left _ h)
      exact ⟨g1, l, t, fz, rfl, g2, h3⟩
    · exact encBs_get hr hus hok.2 hap.2 (fun i h => hi i (List.mem_append_right _ h)) hc
theorem BR_low {ρ ρ' : Ren} {n tot : Nat} (h' : ∀ id x, ρ id = some x → id < n → ρ' id = some x) (h : ∀ B l, ρ.H B = some l → ρ'.H B = some l) : ∀ (b : Blk) (o : Obj), b.low n = true → BR ρ tot b o → BR ρ' tot b o
  | .cells cs, _, hu, ⟨l, t, fz, h1, h2, h3⟩ => ⟨l, t, fz, h1, lows_mono h' h cs l hu h2, h3⟩
  | .vec cs, _, hu, ⟨l, l', t, fz, h1, h2, h3⟩ => ⟨l, l', t, fz, h1, lows_mono h' h cs l hu h2, h3⟩
  | .fn .., _, _, h => h
  | .ints .., _, _, h => h
  | .mem .., _, _, h => h
  | .seg .., _, _, h => h
  | .row .., _, _, h => h
  | .strs _, _, _, h => h
  | .map .., _, hu, _ => by cases hu
  | .siter .., _, _, h => h
  | .imap .., _, _, h => h
  | .win .., _, _, h => h
  | .lastv _ v, _, hu, ⟨l, t, fz, h1, h2, h3, h4, ⟨x, h5, h6⟩, h7⟩ => ⟨l, t, fz, h1, h2, h3, h4, ⟨x, h5, low_mono h' h v x hu h6⟩, h7⟩
theorem idsK_own {K : KS} {v : V} {i : Nat} (h : i ∈ idsK hp K v) : ∃ b, hp.m.get i = some b := by
  unfold idsK at h
  split at h
  · exact idsV_own h
  · cases h
theorem idsCs_own : ∀ {Ks : List KS} {vs : List V} {i : Nat}, i ∈ idsCs hp Ks vs → ∃ b, hp.m.get i = some b
  | [], _, _, h => by simp [idsCs] at h
  | _ :: _, [], _, h => by simp [idsCs] at h
  | K :: Ks, v :: vs, i, h => by
    rcases List.mem_append.1 h with h | h
    · exact idsK_own h
    · exact idsCs_own h
theorem idsTs_own {m : Tr V} : ∀ {l : List (Nat × KS)} {i : Nat}, i ∈ idsTs hp m l → ∃ b, hp.m.get i = some b
  | [], _, h => by simp [idsTs] at h
  | (t, K) :: r, i, h => by
    rcases List.mem_append.1 h with h | h
    · exact idsK_own h
    · exact idsTs_own h
theorem idsBs_own : ∀ {l : List (Nat × List KS)} {i : Nat}, i ∈ idsBs hp l → ∃ b, hp.m.get i = some b
  | [], _, h => by simp [idsBs] at h
  | (b, Ks) :: r, i, h => by
    rcases List.mem_append.1 h with h | h
    · cases hc : hp.m.get b with
      | none => rw [hc] at h; cases h
      | some c =>
        rw [hc] at h
        unfold idsB1 at h
        simp only at h
        split at h
        · exact idsCs_own h
        · cases h
    · exact idsBs_own h
/-- A state, as its data tell it. -/
theorem SR.told (hs : SR w0 F G noRO nt ρ st a w) {sp : LSpec} {d : SD} (hG : G ≤ sp.nxt) (h0 : w0.nxt ≤ sp.nxt) (h : decSt sp st = some d) (hok : okSt sp d = true) : ∃ ρ' : Ren, (∀ id x, ρ id = some x → ¬ (sp.nxt ≤ id ∧ id < sp.lim) → ρ' id = some x) ∧ (∀ B l, ρ.H B = some l → ρ'.H B = some l) ∧ SR w0 F G noRO nt ρ' (encSt sp d) a w := by
  unfold decSt at h
  split at h <;> try contradiction
  rename_i hc
  simp only [Bool.and_eq_true] at hc
  obtain ⟨⟨⟨⟨c1, c2⟩, c3⟩, c4⟩, c5⟩ := hc
  have c4 := Nat.le_of_ble_eq_true c4
  have c5 := Nat.eq_of_beq_eq_true c5
  split at h <;> try contradiction
  rename_i us hus
  split at h <;> try contradiction
  rename_i bs hbs
  injection h with h; subst h
  simp only [okSt, Bool.and_eq_true] at hok
  have hown : ∀ i ∈ idsSt sp st, ∃ b, st.hp.m.get i = some b := by
    intro i hi
    rcases List.mem_append.1 hi with hi | hi
    · exact idsTs_own hi
    · exact idsBs_own hi
  have fr := hs.rel.freeze (ids := idsSt sp st) hown
  have hH : ∀ B l, ρ.H B = some l → Hn ρ w (idsSt sp st) B = some l := fun B l h => Hn_old h
  have lowm : ∀ id x, (⟨ρ.f, Hn ρ w (idsSt sp st)⟩ : Ren) id = some x → id < sp.nxt → (Ren.cut ⟨ρ.f, Hn ρ w (idsSt sp st)⟩ sp.nxt st.hp.lim) id = some x := fun id x hx hl => by rw [cut_low hl]; exact hx
  have hcut := fr.cut (m := encBs sp.bs bs) (n0 := sp.nxt) hG h0 c4 fun id b hb => by
    obtain ⟨g1, g2, c, g3, g4⟩ := encBs_get hs.rel hbs hok.2 c2 (fun i h => List.mem_append_right _ h) hb
    refine ⟨g1, c, ?_, fun B t o k1 k2 => ?_⟩
    · show (hideB st.hp.m (idsSt sp st)).get id = some c
      rw [hideB_get]
      cases hm : memN id (idsSt sp st) with
      | true => exact absurd (memN_iff.1 hm) g2
      | false => exact g3
    · obtain ⟨B', t', o', e1, e2, e3, e4⟩ := hs.rel.blk id c (at_get g3)
      have k1 : ρ id = some (B, t) := k1
      rw [k1] at e1
      obtain ⟨rfl, rfl⟩ := Prod.mk.inj (Option.some.inj e1)
      rw [k2] at e2
      injection e2 with e2; subst e2
      obtain ⟨g5, g6⟩ := g4 _ _ e3
      exact BR_low lowm (fun _ _ h => h) _ _ g5 g6
  refine ⟨Ren.cut ⟨ρ.f, Hn ρ w (idsSt sp st)⟩ sp.nxt st.hp.lim, fun id x hx hn => ?_, hH, ?_, fun t v hv => ?_, ?_, hs.nt⟩
  · show (if sp.nxt ≤ id ∧ id < st.hp.lim then none else ρ id) = some x
    rw [c5, if_neg hn]; exact hx
  · have := hcut
    show Rel w0 F G noRO _ ⟨encBs sp.bs bs, sp.nxt, sp.lim⟩ w
    rw [← c5]; exact hcut
  · obtain ⟨g1, g2⟩ := encTs_get hs.rel hus hok.1 (fun i h => List.mem_append_left _ h) hv
    exact low_mono lowm (fun _ _ h => h) _ _ g1 (g2 _ (tmpV_sound hs.tr t))
  · have := hs.dr
    cases hd : st.dfr with
    | nil => rw [hd] at this; exact this
    | cons x y => rw [hd] at c1; cases c1
/-- A round's end, as its data tell it. -/
def viewL (sp : LSpec) (r : X × St) : T (X × SD) := match decSt sp r.2 with
  | some d => .br (okSt sp d) (.ret (r.1, d)) .fail
  | none => .fail
noncomputable def roundTT (E : Env) (call : CallF) (nt : Nat) (sp : LSpec) (b : C2) (d : SD) : T (X × SD) := (evC2 E noRO call nt 10000 b (encSt sp d)).bind (viewL sp)
noncomputable def roundT (E : Env) (call : CallF) (nt : Nat) (sp : LSpec) (b : C2) (d : SD) : Option (X × SD) := (roundTT E call nt sp b d).run
theorem viewL_sound {sp : LSpec} {r : X × St} {q : X × SD} (h : (viewL sp r).run = some q) : decSt sp r.2 = some q.2 ∧ okSt sp q.2 = true ∧ q.1 = r.1 := by
  unfold viewL at h
  split at h
  · rename_i d hd
    simp only [T.run] at h
    cases hk : okSt sp d with
    | true =>
      rw [hk] at h
      simp only [cond_true, Option.some.injEq] at h
      subst h; exact ⟨hd, hk, rfl⟩
    | false => rw [hk] at h; cases h
  · cases h
theorem SR.tell (hs : SR w0 F G noRO nt ρ st a w) {sp : LSpec} {ρ1 : Ren} {st1 : St} {a1 : Act} {w1 : World} {d : SD} (hG : G ≤ sp.nxt) (hn : st.hp.nxt = sp.nxt) (hl : st.hp.lim = sp.lim) (hle : ρ.le ρ1) (h1 : SR w0 F G noRO nt ρ1 st1 a1 w1) (h : decSt sp st1 = some d) (hok : okSt sp d = true) :
    ∃ ρ' : Ren, ρ.le ρ' ∧ (∀ B l, ρ1.H B = some l → ρ'.H B = some l) ∧ SR w0 F G noRO nt ρ' (encSt sp d) a1 w1 := by
  obtain ⟨ρ', g1, g2, g3⟩ := h1.told hG (by rw [← hn]; exact hs.rel.le0) h hok
  refine ⟨ρ', ⟨fun id x hx => g1 id x (hle id x hx) fun hq => ?_, fun B l hB => g2 B l (hle.leH B l hB)⟩, g2, g3⟩
  rw [hs.rel.fresh id (by rw [hn]; exact hq.1) (by rw [hl]; exact hq.2)] at hx
  cases hx
/-- One round. -/
theorem round_ok (hE : EnvOK P E) {call : CallF} (hc : CallOK P E.G call) {b : C2} {sp : LSpec} {d d2 : SD} {x : X} (hG : E.G ≤ sp.nxt) (hok : ∀ w0 F, b.ok P E w0 F noRO nt) (hs : SR w0 F E.G noRO nt ρ (encSt sp d) a w) (h : roundT E call nt sp b d = some (x, d2)) (hx : ∀ v, x = .pan v → v.flat = true) :
    b.erase.wp P (fun e a' w' => ∃ ρ', ρ.le ρ' ∧ XR ρ' x e ∧ SR w0 F E.G noRO nt ρ' (encSt sp d2) a' w') a w := by
  unfold roundT roundTT at h
  obtain ⟨r, h1, h2⟩ := T.run_bind_some h
  obtain ⟨g1, g2, g3⟩ := viewL_sound h2
  simp only at g1 g2 g3
  refine evC2_sound hE hc 10000 b ρ _ a w r _ (hok _ _) hs h1 fun e a' w' ⟨ρ1, k1, k2, k3⟩ => ?_
  obtain ⟨ρ', q1, q2, q3⟩ := hs.tell hG rfl rfl k1 k2 g1 g2
  refine ⟨ρ', q1, ?_, q3⟩
  rw [← g3] at k3
  cases hxx : x with
  | normal => rw [hxx] at k3; exact k3
  | exit id => rw [hxx] at k3; exact k3
  | ret => rw [hxx] at k3; exact k3
  | pan v =>
    rw [hxx] at k3
    obtain ⟨y, e1, e2⟩ := k3
    exact ⟨y, e1, flat_mono q2 _ _ (hx v hxx) e2⟩
/-- A loop: each round leads on, or out. -/
theorem loop_ok (hE : EnvOK P E) {call : CallF} (hc : CallOK P E.G call) {b : C2} {sp : LSpec} {id : Nat} {σ : Type} {cn : σ → SD} (hG : E.G ≤ sp.nxt) (hok : ∀ w0 F, b.ok P E w0 F noRO nt) {R : σ → Prop} {μ : σ → Nat} {D : X → SD → Prop}
    (step : ∀ s, R s → (∃ s', roundT E call nt sp b (cn s) = some (.normal, cn s') ∧ R s' ∧ μ s' < μ s) ∨ (∃ d2, roundT E call nt sp b (cn s) = some (.exit id, d2) ∧ D .normal d2) ∨ (∃ d2, roundT E call nt sp b (cn s) = some (.ret, d2) ∧ D .ret d2) ∨
      (∃ d2 v, roundT E call nt sp b (cn s) = some (.pan v, d2) ∧ v.flat = true ∧ D (.pan v) d2))
    {s : σ} (hR : R s) (hs : SR w0 F E.G noRO nt ρ (encSt sp (cn s)) a w) :
    (Code.block id (.loop b.erase)).wp P (fun e a' w' => ∃ x d2, D x d2 ∧ ∃ ρ', ρ.le ρ' ∧ XR ρ' x e ∧ SR w0 F E.G noRO nt ρ' (encSt sp d2) a' w') a w := by
  refine wp_block ?_
  have key : ∀ (n : Nat) (s : σ) (ρ1 : Ren) (a : Act) (w : World), R s → μ s < n → ρ.le ρ1 → SR w0 F E.G noRO nt ρ1 (encSt sp (cn s)) a w →
      Code.rounds P b.erase (Exit.inBlock id (fun e a' w' => ∃ x d2, D x d2 ∧ ∃ ρ', ρ.le ρ' ∧ XR ρ' x e ∧ SR w0 F E.G noRO nt ρ' (encSt sp d2) a' w')) n a w := by
    intro n
    induction n with
    | zero => intro s ρ1 a w _ h _ _; omega
    | succ n ih =>
      intro s ρ1 a w hR hn hle hs
      rcases step s hR with ⟨s', h1, h2, h3⟩ | ⟨d2, h1, h2⟩ | ⟨d2, h1, h2⟩ | ⟨d2, v, h1, h2, h4⟩
      · refine wp_mono (round_ok hE hc hG hok hs h1 (fun v h => by cases h)) fun e a' w' ⟨ρ', k0, k1, k2⟩ => ?_
        simp only [XR] at k1; subst k1
        exact ih s' ρ' a' w' h2 (by omega) (hle.trans k0) k2
      · refine wp_mono (round_ok hE hc hG hok hs h1 (fun v h => by cases h)) fun e a' w' ⟨ρ', k0, k1, k2⟩ => ?_
        simp only [XR] at k1; subst k1
        have : Exit.inBlock id (fun e a' w' => ∃ x d2, D x d2 ∧ ∃ ρ', ρ.le ρ' ∧ XR ρ' x e ∧ SR w0 F E.G noRO nt ρ' (encSt sp d2) a' w') (.exit id) a' w' := by
          simp only [Exit.inBlock, if_true]
          exact ⟨.normal, d2, h2, ρ', hle.trans k0, rfl, k2⟩
        exact this
      · refine wp_mono (round_ok hE hc hG hok hs h1 (fun v h => by cases h)) fun e a' w' ⟨ρ', k0, k1, k2⟩ => ?_
        simp only [XR] at k1; subst k1
        exact ⟨.ret, d2, h2, ρ', hle.trans k0, rfl, k2⟩
      · refine wp_mono (round_ok hE hc hG hok hs h1 (fun v' h => by injection h with h; subst h; exact h2)) fun e a' w' ⟨ρ', k0, k1, k2⟩ => ?_
        have k1' := k1
        obtain ⟨y, e1, e2⟩ := k1
        subst e1
        exact ⟨.pan v, d2, h4, ρ', hle.trans k0, k1', k2⟩
  exact wp_loop_rounds _ (key (μ s + 1) s ρ a w hR (by omega) (Ren.le.refl _) hs)
/-- How a loop comes to its end. -/
inductive LX where
  | nrm
  | ret
  | pan (v : V)
def LX.x : LX → X
  | .nrm => .normal
  | .ret => .ret
  | .pan v => .pan v
theorem Rel.raise (hr : Rel w0 F G ro ρ hp w) {n : Nat} (hn : hp.nxt ≤ n) : Rel w0 F G ro ρ ⟨hp.m, n, hp.lim⟩ w := by
  refine ⟨hr.blk, hr.inj, hr.sep, fun id h1 h2 => hr.fresh id (Nat.le_trans hn h1) h2, hr.frame, hr.size, hr.tape, hr.os, hr.output, hr.glob, fun id x hx => ?_, Nat.le_trans hr.le0 hn, hr.fz.keep, hr.fz.sep, hr.fz.new⟩
  rcases hr.ren id x hx with q | q
  · exact .inl q
  · exact .inr ⟨q.1, Nat.lt_of_lt_of_le q.2 hn⟩
/-- The loop, told. -/
def loopF {σ : Type} (sp : LSpec) (par : SD → Option σ) (cn : σ → SD) (fin : σ → T (LX × σ)) (st : St) : T (X × St) := match Nat.ble st.hp.nxt sp.nxt with
  | true => match decSt sp ⟨st.tmps, st.dfr, ⟨st.hp.m, sp.nxt, st.hp.lim⟩⟩ with
    | some d => match par d with
      | some s => .br (okSt sp d) ((fin s).bind fun r => .ret (r.1.x, encSt sp (cn r.2))) .fail
      | none => .fail
    | none => .fail
  | false => .fail
/-- Each round does as the model says. -/
def Leads {σ : Type} (E : Env) (call : CallF) (nt : Nat) (sp : LSpec) (b : C2) (id : Nat) (cn : σ → SD) (fin : σ → T (LX × σ)) (μ : σ → Nat) : Prop :=
  ∀ s r, (fin s).run = some r → (∃ s', roundT E call nt sp b (cn s) = some (.normal, cn s') ∧ (fin s').run = some r ∧ μ s' < μ s) ∨ (roundT E call nt sp b (cn s) = some (.exit id, cn r.2) ∧ r.1 = .nrm) ∨
    (roundT E call nt sp b (cn s) = some (.ret, cn r.2) ∧ r.1 = .ret) ∨ (∃ v, roundT E call nt sp b (cn s) = some (.pan v, cn r.2) ∧ v.flat = true ∧ r.1 = .pan v)
theorem loopF_ok (hE : EnvOK P E) {call : CallF} (hc : CallOK P E.G call) {b : C2} {id : Nat} {sp : LSpec} {σ : Type} {cn : σ → SD} {par : SD → Option σ} {fin : σ → T (LX × σ)} {μ : σ → Nat} (hG : E.G ≤ sp.nxt) (hok : ∀ w0 F, b.ok P E w0 F noRO nt) (hpar : ∀ d s, par d = some s → d = cn s) (step : Leads E call nt sp b id cn fin μ) :
    ∀ w0 F, HookOK P E w0 F noRO nt (.block id (.loop b.erase)) (loopF sp par cn fin) := by
  intro w0 F ρ st a w r hs h
  unfold loopF at h
  split at h <;> try (cases h; done)
  rename_i hn
  have hn := Nat.le_of_ble_eq_true hn
  have hs : SR w0 F E.G noRO nt ρ ⟨st.tmps, st.dfr, ⟨st.hp.m, sp.nxt, st.hp.lim⟩⟩ a w := ⟨hs.rel.raise hn, hs.tr, hs.dr, hs.nt⟩
  split at h <;> try (cases h; done)
  rename_i d hd
  split at h <;> try (cases h; done)
  rename_i s hp
  simp only [T.run] at h
  cases hk : okSt sp d with
  | false => rw [hk] at h; cases h
  | true =>
    rw [hk] at h
    simp only [cond_true] at h
    obtain ⟨q, h1, h2⟩ := T.run_bind_some h
    injection h2 with h2; subst h2
    have hl : st.hp.lim = sp.lim := by
      unfold decSt at hd
      split at hd <;> try contradiction
      rename_i hc
      simp only [Bool.and_eq_true] at hc
      exact Nat.eq_of_beq_eq_true hc.2
    obtain ⟨ρ1, g1, _, g3⟩ := hs.tell hG rfl hl (Ren.le.refl _) hs hd hk
    rw [hpar d s hp] at g3
    refine wp_mono (loop_ok hE hc (cn := cn) (R := fun s => (fin s).run = some q) (μ := μ) (D := fun x d2 => x = q.1.x ∧ d2 = cn q.2) hG hok (fun s hR => ?_) h1 g3) ?_
    · rcases step s q hR with ⟨s', h1, h2, h3⟩ | ⟨h1, h2⟩ | ⟨h1, h2⟩ | ⟨v, h1, h2, h3⟩
      · exact .inl ⟨s', h1, h2, h3⟩
      · exact .inr (.inl ⟨_, h1, by rw [h2]; rfl, rfl⟩)
      · exact .inr (.inr (.inl ⟨_, h1, by rw [h2]; rfl, rfl⟩))
      · exact .inr (.inr (.inr ⟨_, v, h1, h2, by rw [h3]; rfl, rfl⟩))
    · rintro e a' w' ⟨x, d2, ⟨rfl, rfl⟩, ρ', k0, k1, k2⟩
      exact ⟨ρ', g1.trans k0, k2, k1⟩
/-! ### code with its loops told -/
def withHooks (h : Nat → Option (St → T (X × St))) : Code → C2
  | .block id b => match h id with
    | some f => .hook (.block id b) f
    | none => .block id (withHooks h b)
  | .seq a b => .seq (withHooks h a) (withHooks h b)
  | .cond c a b => .cond c (withHooks h a) (withHooks h b)
  | .loop b => .loop (withHooks h b)
  | .scope b => .scope (withHooks h b)
  | c => .code c
theorem withHooks_erase {h : Nat → Option (St → T (X × St))} : ∀ c : Code, (withHooks h c).erase = c
  | .block id b => by
    unfold withHooks
    split
    · rfl
    · simp only [C2.erase, withHooks_erase b]
  | .seq a b => by simp only [withHooks, C2.erase, withHooks_erase a, withHooks_erase b]
  | .cond c a b => by simp only [withHooks, C2.erase, withHooks_erase a, withHooks_erase b]
  | .loop b => by simp only [withHooks, C2.erase, withHooks_erase b]
  | .scope b => by simp only [withHooks, C2.erase, withHooks_erase b]
  | .skip | .region .. | .rangeFunc .. | .exit .. | .label .. | .goto .. | .ret | .refuse .. => rfl
/-- The blocks of a number, from without. -/
def blocksOf (k : Nat) : Code → List Code
  | .block id b => match Nat.beq id k with
    | true => b :: blocksOf k b
    | false => blocksOf k b
  | .seq a b => blocksOf k a ++ blocksOf k b
  | .cond _ a b => blocksOf k a ++ blocksOf k b
  | .loop b => blocksOf k b
  | .scope b => blocksOf k b
  | _ => []
theorem withHooks_ok {h : Nat → Option (St → T (X × St))} : ∀ c : Code, (∀ id f b, h id = some f → b ∈ blocksOf id c → HookOK P E w0 F ro nt (.block id b) f) → (withHooks h c).ok P E w0 F ro nt
  | .block id b, hh => by
    unfold withHooks
    split
    · rename_i f hf
      exact hh id f b hf (by simp [blocksOf])
    · refine withHooks_ok b fun k f b' hk hb => hh k f b' hk ?_
      unfold blocksOf
      split
      · exact List.mem_cons_of_mem _ hb
      · exact hb
  | .seq a b, hh => ⟨withHooks_ok a fun k f b' hk hb => hh k f b' hk (List.mem_append_left _ hb), withHooks_ok b fun k f b' hk hb => hh k f b' hk (List.mem_append_right _ hb)⟩
  | .cond c a b, hh => ⟨withHooks_ok a fun k f b' hk hb => hh k f b' hk (List.mem_append_left _ hb), withHooks_ok b fun k f b' hk hb => hh k f b' hk (List.mem_append_right _ hb)⟩
  | .loop b, hh => withHooks_ok b fun k f b' hk hb => hh k f b' hk hb
  | .scope b, hh => withHooks_ok b fun k f b' hk hb => hh k f b' hk hb
  | .skip, _ | .region .., _ | .rangeFunc .., _ | .exit .., _ | .label .., _ | .goto .., _ | .ret, _ | .refuse .., _ => trivial
def unLoop : Code → Code
  | .loop b => b
  | c => c
end
end Go.Ev
