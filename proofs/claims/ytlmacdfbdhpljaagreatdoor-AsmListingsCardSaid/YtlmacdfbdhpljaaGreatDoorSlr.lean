/- Own text: told loops, with what is only read, and with rows of numbers. -/
import Derived.Test.YtlmacdfbdhpljaaGreatDoorSl
namespace Go.Ev
open Go.Ev.Tr
section
variable {w0 : Base} {F : Nat → Prop} {G : Nat} {ρ : Ren} {hp : Hp} {w : World}
/-- Less is known. -/
theorem Rel.cutR {ro : RO} (hr : Rel w0 F G ro ρ hp w) {m : Tr Blk} {n0 : Nat} (hro : RoF n0 ro) (hG : G ≤ n0) (h0 : w0.nxt ≤ n0) (hn : hp.nxt ≤ hp.lim) (hm : ∀ id b, m.get id = some b → id < n0 ∧ ∃ c, hp.m.get id = some c ∧ ∀ B t o, ρ id = some (B, t) → w.heap[B]? = some o → BR (ρ.cut n0 hp.lim) t b o) :
    Rel w0 F G ro (ρ.cut n0 hp.lim) ⟨m, n0, hp.lim⟩ w := by
  have known : ∀ id b, Hp.at ro ⟨m, n0, hp.lim⟩ id = some b → id < n0 ∧ ((∃ c, m.get id = some b ∧ hp.m.get id = some c ∧ ∀ B t o, ρ id = some (B, t) → w.heap[B]? = some o → BR (ρ.cut n0 hp.lim) t b o) ∨ (m.get id = none ∧ ro id = some b)) := fun id b h => by
    rcases at_split h with h1 | ⟨h1, h2⟩
    · obtain ⟨h2, c, h3, h4⟩ := hm id b h1
      exact ⟨h2, .inl ⟨c, h1, h3, h4⟩⟩
    · exact ⟨(hro id b h2).1, .inr ⟨h1, h2⟩⟩
  have at' : ∀ id b, Hp.at ro ⟨m, n0, hp.lim⟩ id = some b → ∃ c, hp.at ro id = some c := fun id b h => by
    rcases (known id b h).2 with ⟨c, _, h3, _⟩ | ⟨_, h2⟩
    · exact ⟨c, at_get h3⟩
    · exact ⟨b, hr.at_ro h2⟩
  refine ⟨fun id b h => ?_, fun i j b c B t t' hi hj e1 e2 => ?_, fun id b h => ?_, fun id h1 h2 => ?_, hr.frame, hr.size, hr.tape, hr.os, hr.output, fun g hg => ?_, fun id x hx => ?_, h0, hr.fz.keep, fun id b B t h1 h2 => ?_, hr.fz.new⟩
  · obtain ⟨hl, hk⟩ := known id b h
    rcases hk with ⟨c, _, h3, h4⟩ | ⟨h1, h2⟩
    · obtain ⟨B, t, o, e1, e2, e3, e4⟩ := hr.blk id c (at_get h3)
      refine ⟨B, t, o, by rw [cut_low hl]; exact e1, e2, h4 _ _ _ e1 e2, ?_⟩
      exact .inr (e4.resolve_left (by rw [h3]; simp))
    · obtain ⟨B, t, o, e1, e2, e3, _⟩ := hr.blk id b (hr.at_ro h2)
      exact ⟨B, t, o, by rw [cut_low hl]; exact e1, e2, BR_flat (ρ := ρ) (ρ' := ρ.cut n0 hp.lim) (fun _ _ h => h) _ _ (hro id b h2).2 e3, .inl h1⟩
  · obtain ⟨c1, hc1⟩ := at' i b hi
    obtain ⟨c2, hc2⟩ := at' j c hj
    rcases hr.inj _ _ _ _ _ _ _ hc1 hc2 (cut_some e1).1 (cut_some e2).1 with q | ⟨q1, q2⟩
    · exact .inl q
    · refine .inr ⟨?_, ?_⟩
      · rcases (known i b hi).2 with ⟨c, _, h3, _⟩ | ⟨h1, _⟩
        · rw [q1] at h3; cases h3
        · exact h1
      · rcases (known j c hj).2 with ⟨c, _, h3, _⟩ | ⟨h1, _⟩
        · rw [q2] at h3; cases h3
        · exact h1
  · obtain ⟨_, c, h3, _⟩ := hm id b h
    exact hr.sep id c h3
  · show (ρ.cut n0 hp.lim) id = none
    simp only [Ren.cut]
    rw [if_pos ⟨h1, h2⟩]
  · obtain ⟨t, ht⟩ := hr.glob g hg
    exact ⟨t, by rw [cut_low (by omega)]; exact ht⟩
  · obtain ⟨h1, h2⟩ := cut_some hx
    rcases hr.ren id x h1 with q | q
    · exact .inl q
    · refine .inr ⟨q.1, ?_⟩
      show id < n0
      have := q.2
      omega
  · obtain ⟨_, c, h3, _⟩ := hm id b h1
    exact hr.fz.sep _ _ _ _ h3 (cut_some h2).1
end
/-! ### kinds of data -/
inductive KSR where
  | i (k : IntKind) (lo hi : Int)
  /-- the bounds are plain from without -/
  | j (k : IntKind) (lo hi : Int)
  | b
  | s
  /-- a string of one byte below 128 -/
  | c
  | d
  | p (b : Nat)
  | v
  /-- a row of numbers -/
  | r (k : IntKind) (lo hi : Int)
  /-- nothing is told -/
  | x
inductive SVR where
  | i (n : Int)
  | b (b : Bool)
  | s (l : List UInt8)
  | d (d : Dv)
  | v (v : V)
  | nul
  | r (n : Nat) (f : Nat → Int)
def decKR (hp : Hp) (n0 : Nat) : KSR → V → Option SVR
  | .i k _ _, .int k' i => match decide (k = k') with
    | true => some (.i i.n)
    | false => none
  | .j k lo hi, .int k' i => match decide (k = k') && ile lo i.lo && ile i.hi hi with
    | true => some (.i i.n)
    | false => none
  | .b, .bool b => some (.b b)
  | .b, .sbool b => some (.b b)
  | .s, .str l => some (.s (l.map byteOf))
  | .s, .ssym l => some (.s l)
  | .s, .deep (.str l) => some (.s l)
  | .d, v => match deepV 20 hp v with
    | some d => some (.d d)
    | none => none
  | .p b, .ptr b' o => match Nat.beq b b' && isZero o && Nat.ble (b + 1) n0 with
    | true => some .nul
    | false => none
  | .v, v => match V.low n0 v with
    | true => some (.v v)
    | false => none
  | .x, _ => some .nul
  | _, _ => none
def idsKR (hp : Hp) : KSR → V → List Nat
  | .d, v => idsV 20 hp v
  | _, _ => []
def encKR : KSR → SVR → V
  | .i k lo hi, .i n => .int k ⟨n, lo, hi⟩
  | .j k lo hi, .i n => .int k ⟨n, lo, hi⟩
  | .b, .b b => .sbool b
  | .s, .s l => .ssym l
  | .c, .i n => .str [⟨n, 0, 127⟩]
  | .d, .d d => .deep d
  | .p b, _ => .ptr b (I.lit 0)
  | .v, .v v => v
  | _, _ => .any
def okKR : KSR → SVR → Bool
  | .i _ lo hi, .i n => decide (lo ≤ n) && decide (n ≤ hi)
  | .s, .s l => decide (l.length ≤ 281474976710656)
  | _, _ => true
section
variable {w0 : Base} {F : Nat → Prop} {G : Nat} {ρ : Ren} {hp : Hp} {w : World} {ro : RO}
theorem encK_soundR (hr : Rel w0 F G ro ρ hp w) {n0 : Nat} {K : KSR} {v : V} {u : SVR} {x : Value} {ids : List Nat} (h : decKR hp n0 K v = some u) (hok : okKR K u = true) (hx : VR ρ v x) (hi : ∀ i ∈ idsKR hp K v, i ∈ ids) : V.low n0 (encKR K u) = true ∧ VR ⟨ρ.f, Hn ρ w ids⟩ (encKR K u) x := by
  have hle : ρ.le ⟨ρ.f, Hn ρ w ids⟩ := ⟨fun _ _ h => h, fun _ _ h => Hn_old h⟩
  unfold decKR at h
  split at h
  · split at h <;> try contradiction
    rename_i hk
    have hk := of_decide_eq_true hk
    injection h with h; subst h; subst hk
    simp only [okKR, Bool.and_eq_true, decide_eq_true_eq] at hok
    obtain ⟨m, rfl, hm⟩ := hx
    refine ⟨rfl, m, rfl, hm.1, ?_, ?_⟩
    · have := hm.1; simp only at *; omega
    · have := hm.1; simp only at *; omega
  · split at h <;> try contradiction
    rename_i hk
    simp only [Bool.and_eq_true, decide_eq_true_eq, ile_iff] at hk
    obtain ⟨⟨hk, k1⟩, k2⟩ := hk
    injection h with h; subst h; subst hk
    obtain ⟨m, rfl, hm⟩ := hx
    refine ⟨rfl, m, rfl, hm.1, ?_, ?_⟩
    · have := hm.2; simp only at *; omega
    · have := hm.2; simp only at *; omega
  · injection h with h; subst h; exact ⟨rfl, hx⟩
  · injection h with h; subst h; exact ⟨rfl, hx⟩
  · injection h with h; subst h
    simp only [okKR, decide_eq_true_eq] at hok
    exact ⟨rfl, hx.1, hok⟩
  · injection h with h; subst h; exact ⟨rfl, hx⟩
  · injection h with h; subst h
    simp only [okKR, decide_eq_true_eq] at hok
    refine ⟨rfl, ?_, hok⟩
    have hx : FR ρ.H (.str _) x := hx
    simp only [FR] at hx; exact hx.1
  · split at h <;> try contradiction
    rename_i d hd
    injection h with h; subst h
    exact ⟨rfl, deepV_sound hr 20 _ _ _ hd hx hi⟩
  · split at h <;> try contradiction
    rename_i hk
    injection h with h; subst h
    simp only [Bool.and_eq_true] at hk
    obtain ⟨⟨h1, h2⟩, h3⟩ := hk
    have h1 := Nat.eq_of_beq_eq_true h1
    subst h1
    obtain ⟨B, tot, m, e1, rfl, e3⟩ := hx
    refine ⟨h3, B, tot, m, e1, rfl, ?_⟩
    simp only [isZero, Bool.and_eq_true, ieq_iff] at h2
    have := e3.2
    have e : m = 0 := by omega
    rw [e]; exact IR.lit 0
  · split at h <;> try contradiction
    rename_i hl
    injection h with h; subst h
    exact ⟨hl, VR.mono hle _ _ hx⟩
  · injection h with h; subst h; exact ⟨rfl, trivial⟩
  · cases h
end
abbrev SDR := List SVR × List (List SVR)
structure LSpecR where
  ts : List (Nat × KSR)
  bs : List (Nat × List KSR)
  nxt : Nat
  lim : Nat
def decCsR (hp : Hp) (n0 : Nat) : List KSR → List V → Option (List SVR)
  | [], [] => some []
  | K :: Ks, v :: vs => match decKR hp n0 K v with
    | some u => match decCsR hp n0 Ks vs with
      | some us => some (u :: us)
      | none => none
    | none => none
  | _, _ => none
def idsCsR (hp : Hp) : List KSR → List V → List Nat
  | K :: Ks, v :: vs => idsKR hp K v ++ idsCsR hp Ks vs
  | _, _ => []
def encCsR : List KSR → List SVR → List V
  | K :: Ks, u :: us => encKR K u :: encCsR Ks us
  | _, _ => []
def okCsR : List KSR → List SVR → Bool
  | K :: Ks, u :: us => okKR K u && okCsR Ks us
  | _, _ => true
def decB1R (hp : Hp) (n0 : Nat) (Ks : List KSR) : Blk → Option (List SVR)
  | .cells cs => decCsR hp n0 Ks cs
  | .row k n f lo hi => match Ks with
    | [.r k' lo' hi'] => match decide (k = k') && ile lo' lo && ile hi hi' with
      | true => some [.r n f]
      | false => none
    | _ => none
  | _ => none
def encB1R (Ks : List KSR) (us : List SVR) : Blk := match Ks, us with
  | [.r k lo hi], [.r n f] => .row k n f lo hi
  | _, _ => .cells (encCsR Ks us)
def idsB1R (hp : Hp) (Ks : List KSR) : Blk → List Nat
  | .cells cs => idsCsR hp Ks cs
  | _ => []
def decTsR (hp : Hp) (n0 : Nat) (m : Tr V) : List (Nat × KSR) → Option (List SVR)
  | [] => some []
  | (t, K) :: r => match decKR hp n0 K (tmpV m t) with
    | some u => match decTsR hp n0 m r with
      | some us => some (u :: us)
      | none => none
    | none => none
def idsTsR (hp : Hp) (m : Tr V) : List (Nat × KSR) → List Nat
  | [] => []
  | (t, K) :: r => idsKR hp K (tmpV m t) ++ idsTsR hp m r
def encTsR : List (Nat × KSR) → List SVR → Tr V
  | (t, K) :: r, u :: us => (encTsR r us).set t (some (encKR K u))
  | _, _ => .lf
def okTsR : List (Nat × KSR) → List SVR → Bool
  | (_, K) :: r, u :: us => okKR K u && okTsR r us
  | _, _ => true
def decBsR (hp : Hp) (n0 : Nat) : List (Nat × List KSR) → Option (List (List SVR))
  | [] => some []
  | (b, Ks) :: r => match hp.m.get b with
    | some c => match decB1R hp n0 Ks c with
      | some u => match decBsR hp n0 r with
        | some us => some (u :: us)
        | none => none
      | none => none
    | none => none
def idsBsR (hp : Hp) : List (Nat × List KSR) → List Nat
  | [] => []
  | (b, Ks) :: r => (match hp.m.get b with
    | some c => idsB1R hp Ks c
    | none => []) ++ idsBsR hp r
def encBsR : List (Nat × List KSR) → List (List SVR) → Tr Blk
  | (b, Ks) :: r, u :: us => (encBsR r us).set b (some (encB1R Ks u))
  | _, _ => .lf
def okBsR : List (Nat × List KSR) → List (List SVR) → Bool
  | (_, Ks) :: r, u :: us => okCsR Ks u && okBsR r us
  | _, _ => true
def apartBsR (n0 : Nat) (ids : List Nat) : List (Nat × List KSR) → Bool
  | [] => true
  | (b, _) :: r => !memN b ids && Nat.ble (b + 1) n0 && apartBsR n0 ids r
def noDfrR : List ADef → Bool
  | [] => true
  | _ => false
def encStR (sp : LSpecR) (d : SDR) : St := ⟨encTsR sp.ts d.1, [], ⟨encBsR sp.bs d.2, sp.nxt, sp.lim⟩⟩
def okStR (sp : LSpecR) (d : SDR) : Bool := okTsR sp.ts d.1 && okBsR sp.bs d.2
def idsStR (sp : LSpecR) (st : St) : List Nat := idsTsR st.hp st.tmps sp.ts ++ idsBsR st.hp sp.bs
def decStR (sp : LSpecR) (st : St) : Option SDR := match noDfrR st.dfr && apartBsR sp.nxt (idsStR sp st) sp.bs && Nat.ble sp.nxt st.hp.nxt && Nat.ble st.hp.nxt st.hp.lim && Nat.beq st.hp.lim sp.lim with
  | true => match decTsR st.hp sp.nxt st.tmps sp.ts with
    | some us => match decBsR st.hp sp.nxt sp.bs with
      | some bs => some (us, bs)
      | none => none
    | none => none
  | false => none
section
variable {P : Program} {E : Env} {w0 : Base} {F : Nat → Prop} {G : Nat} {ρ : Ren} {hp : Hp} {w : World} {ro : RO} {st : St} {a : Act} {nt : Nat}
theorem encCs_soundR (hr : Rel w0 F G ro ρ hp w) {n0 : Nat} {ids : List Nat} : ∀ {Ks : List KSR} {vs : List V} {us : List SVR} {l : List Value}, decCsR hp n0 Ks vs = some us → okCsR Ks us = true → VRs ρ vs l → (∀ i ∈ idsCsR hp Ks vs, i ∈ ids) → lows n0 (encCsR Ks us) = true ∧ VRs ⟨ρ.f, Hn ρ w ids⟩ (encCsR Ks us) l
  | [], [], us, l, h, _, hv, _ => by injection h with h; subst h; exact ⟨rfl, hv⟩
  | [], _ :: _, _, _, h, _, _, _ => by cases h
  | _ :: _, [], _, _, h, _, _, _ => by cases h
  | K :: Ks, v :: vs, us, l, h, hok, ⟨x, xs, h1, h2, h3⟩, hi => by
    unfold decCsR at h
    split at h <;> try contradiction
    rename_i u hu
    split at h <;> try contradiction
    rename_i us' hus
    injection h with h; subst h
    simp only [okCsR, Bool.and_eq_true] at hok
    obtain ⟨g1, g2⟩ := encK_soundR hr hu hok.1 h2 fun i h => hi i (List.mem_append_left _ h)
    obtain ⟨g3, g4⟩ := encCs_soundR hr hus hok.2 h3 fun i h => hi i (List.mem_append_right _ h)
    refine ⟨?_, x, xs, h1, g2, g4⟩
    simp only [encCsR, lows, Bool.and_eq_true]
    exact ⟨g1, g3⟩
theorem encTs_getR (hr : Rel w0 F G ro ρ hp w) {n0 : Nat} {ids : List Nat} {m : Tr V} {t : Nat} {c : V} : ∀ {l : List (Nat × KSR)} {us : List SVR}, decTsR hp n0 m l = some us → okTsR l us = true → (∀ i ∈ idsTsR hp m l, i ∈ ids) → (encTsR l us).get t = some c →
    V.low n0 c = true ∧ ∀ x, VR ρ (tmpV m t) x → VR ⟨ρ.f, Hn ρ w ids⟩ c x
  | [], us, h, _, _, hc => by injection h with h; subst h; cases hc
  | (t', K) :: r, us, h, hok, hi, hc => by
    unfold decTsR at h
    split at h <;> try contradiction
    rename_i u hu
    split at h <;> try contradiction
    rename_i us' hus
    injection h with h; subst h
    simp only [okTsR, Bool.and_eq_true] at hok
    simp only [encTsR, Tr.get_set] at hc
    split at hc
    · rename_i e; subst e
      injection hc with hc; subst hc
      refine ⟨?_, fun x hx => (encK_soundR hr hu hok.1 hx fun i h => hi i (List.mem_append_left _ h)).2⟩
      unfold decKR at hu
      split at hu
      · split at hu <;> try contradiction
        injection hu with hu; subst hu; rfl
      · split at hu <;> try contradiction
        injection hu with hu; subst hu; rfl
      · injection hu with hu; subst hu; rfl
      · injection hu with hu; subst hu; rfl
      · injection hu with hu; subst hu; rfl
      · injection hu with hu; subst hu; rfl
      · injection hu with hu; subst hu; rfl
      · split at hu <;> try contradiction
        injection hu with hu; subst hu; rfl
      · split at hu <;> try contradiction
        rename_i hk
        injection hu with hu; subst hu
        simp only [Bool.and_eq_true] at hk
        exact hk.2
      · split at hu <;> try contradiction
        rename_i hl
        injection hu with hu; subst hu; exact hl
      · injection hu with hu; subst hu; rfl
      · cases hu
    · exact encTs_getR hr hus hok.2 (fun i h => hi i (List.mem_append_right _ h)) hc
theorem encBs_getR (hr : Rel w0 F G ro ρ hp w) {n0 : Nat} {ids : List Nat} {id : Nat} {b : Blk} : ∀ {l : List (Nat × List KSR)} {us : List (List SVR)}, decBsR hp n0 l = some us → okBsR l us = true → apartBsR n0 ids l = true → (∀ i ∈ idsBsR hp l, i ∈ ids) → (encBsR l us).get id = some b →
    id < n0 ∧ id ∉ ids ∧ ∃ c, hp.m.get id = some c ∧ ∀ tot o, BR ρ tot c o → b.low n0 = true ∧ BR ⟨ρ.f, Hn ρ w ids⟩ tot b o
  | [], us, h, _, _, _, hc => by injection h with h; subst h; cases hc
  | (b', Ks) :: r, us, h, hok, hap, hi, hc => by
    unfold decBsR at h
    split at h <;> try contradiction
    rename_i c hcg
    split at h <;> try contradiction
    rename_i u hu
    split at h <;> try contradiction
    rename_i us' hus
    injection h with h; subst h
    simp only [okBsR, Bool.and_eq_true] at hok
    simp only [apartBsR, Bool.and_eq_true, Bool.not_eq_true'] at hap
    simp only [encBsR, Tr.get_set] at hc
    simp only [idsBsR, hcg] at hi
    split at hc
    · rename_i e; subst e
      injection hc with hc; subst hc
      refine ⟨Nat.le_of_ble_eq_true hap.1.2, fun hm => ?_, c, hcg, ?_⟩
      · rw [memN_iff.2 hm] at hap; cases hap.1.1
      unfold decB1R at hu
      split at hu <;> try contradiction
      · rename_i cs
        have hcells : encB1R Ks u = .cells (encCsR Ks u) := by
          unfold encB1R
          split
          · rename_i k lo hi n f
            exfalso
            cases cs with
            | nil => cases hu
            | cons v vs =>
              unfold decCsR at hu
              simp only [decKR] at hu
              cases hu
          · rfl
        rintro tot o ⟨l, t, fz, rfl, h2, h3⟩
        obtain ⟨g1, g2⟩ := encCs_soundR hr hu hok.1 h2 fun i h => hi i (List.mem_append_left _ h)
        rw [hcells]
        exact ⟨g1, l, t, fz, rfl, g2, h3⟩
      · rename_i k n f lo hi
        split at hu <;> try contradiction
        split at hu <;> try contradiction
        rename_i hk
        simp only [Bool.and_eq_true, decide_eq_true_eq, ile_iff] at hk
        obtain ⟨⟨rfl, k1⟩, k2⟩ := hk
        injection hu with hu; subst hu
        rintro tot o ⟨l, t, fz, rfl, h2, h3, h4, h5⟩
        refine ⟨rfl, l, t, fz, rfl, h2, h3, fun i hi => ?_, h5⟩
        obtain ⟨q1, q2, q3⟩ := h4 i hi
        exact ⟨q1, by omega, by omega⟩
    · exact encBs_getR hr hus hok.2 hap.2 (fun i h => hi i (List.mem_append_right _ h)) hc
theorem idsK_ownR {K : KSR} {v : V} {i : Nat} (h : i ∈ idsKR hp K v) : ∃ b, hp.m.get i = some b := by
  unfold idsKR at h
  split at h
  · exact idsV_own h
  · cases h
theorem idsCs_ownR : ∀ {Ks : List KSR} {vs : List V} {i : Nat}, i ∈ idsCsR hp Ks vs → ∃ b, hp.m.get i = some b
  | [], _, _, h => by simp [idsCsR] at h
  | _ :: _, [], _, h => by simp [idsCsR] at h
  | K :: Ks, v :: vs, i, h => by
    rcases List.mem_append.1 h with h | h
    · exact idsK_ownR h
    · exact idsCs_ownR h
theorem idsTs_ownR {m : Tr V} : ∀ {l : List (Nat × KSR)} {i : Nat}, i ∈ idsTsR hp m l → ∃ b, hp.m.get i = some b
  | [], _, h => by simp [idsTsR] at h
  | (t, K) :: r, i, h => by
    rcases List.mem_append.1 h with h | h
    · exact idsK_ownR h
    · exact idsTs_ownR h
theorem idsBs_ownR : ∀ {l : List (Nat × List KSR)} {i : Nat}, i ∈ idsBsR hp l → ∃ b, hp.m.get i = some b
  | [], _, h => by simp [idsBsR] at h
  | (b, Ks) :: r, i, h => by
    rcases List.mem_append.1 h with h | h
    · cases hc : hp.m.get b with
      | none => rw [hc] at h; cases h
      | some c =>
        rw [hc] at h
        unfold idsB1R at h
        simp only at h
        split at h
        · exact idsCs_ownR h
        · cases h
    · exact idsBs_ownR h
/-- A state, as its data tell it. -/
theorem SR.toldR (hs : SR w0 F G ro nt ρ st a w) {sp : LSpecR} {d : SDR} (hro : RoF sp.nxt ro) (hG : G ≤ sp.nxt) (h0 : w0.nxt ≤ sp.nxt) (h : decStR sp st = some d) (hok : okStR sp d = true) : ∃ ρ' : Ren, (∀ id x, ρ id = some x → ¬ (sp.nxt ≤ id ∧ id < sp.lim) → ρ' id = some x) ∧ (∀ B l, ρ.H B = some l → ρ'.H B = some l) ∧ SR w0 F G ro nt ρ' (encStR sp d) a w := by
  unfold decStR at h
  split at h <;> try contradiction
  rename_i hc
  simp only [Bool.and_eq_true] at hc
  obtain ⟨⟨⟨⟨c1, c2⟩, c3⟩, c4⟩, c5⟩ := hc
  have c4 := Nat.le_of_ble_eq_true c4
  have c5 := Nat.eq_of_beq_eq_true c5
  split at h <;> try contradiction
  rename_i us hus
  split at h <;> try contradiction
  rename_i bs hbs
  injection h with h; subst h
  simp only [okStR, Bool.and_eq_true] at hok
  have hown : ∀ i ∈ idsStR sp st, ∃ b, st.hp.m.get i = some b := by
    intro i hi
    rcases List.mem_append.1 hi with hi | hi
    · exact idsTs_ownR hi
    · exact idsBs_ownR hi
  have fr := hs.rel.freeze (ids := idsStR sp st) hown
  have hH : ∀ B l, ρ.H B = some l → Hn ρ w (idsStR sp st) B = some l := fun B l h => Hn_old h
  have lowm : ∀ id x, (⟨ρ.f, Hn ρ w (idsStR sp st)⟩ : Ren) id = some x → id < sp.nxt → (Ren.cut ⟨ρ.f, Hn ρ w (idsStR sp st)⟩ sp.nxt st.hp.lim) id = some x := fun id x hx hl => by rw [cut_low hl]; exact hx
  have hcut := fr.cutR hro (m := encBsR sp.bs bs) (n0 := sp.nxt) hG h0 c4 fun id b hb => by
    obtain ⟨g1, g2, c, g3, g4⟩ := encBs_getR hs.rel hbs hok.2 c2 (fun i h => List.mem_append_right _ h) hb
    refine ⟨g1, c, ?_, fun B t o k1 k2 => ?_⟩
    · show (hideB st.hp.m (idsStR sp st)).get id = some c
      rw [hideB_get]
      cases hm : memN id (idsStR sp st) with
      | true => exact absurd (memN_iff.1 hm) g2
      | false => exact g3
    · obtain ⟨B', t', o', e1, e2, e3, e4⟩ := hs.rel.blk id c (at_get g3)
      have k1 : ρ id = some (B, t) := k1
      rw [k1] at e1
      obtain ⟨rfl, rfl⟩ := Prod.mk.inj (Option.some.inj e1)
      rw [k2] at e2
      injection e2 with e2; subst e2
      obtain ⟨g5, g6⟩ := g4 _ _ e3
      exact BR_low lowm (fun _ _ h => h) _ _ g5 g6
  refine ⟨Ren.cut ⟨ρ.f, Hn ρ w (idsStR sp st)⟩ sp.nxt st.hp.lim, fun id x hx hn => ?_, hH, ?_, fun t v hv => ?_, ?_, hs.nt⟩
  · show (if sp.nxt ≤ id ∧ id < st.hp.lim then none else ρ id) = some x
    rw [c5, if_neg hn]; exact hx
  · have := hcut
    show Rel w0 F G ro _ ⟨encBsR sp.bs bs, sp.nxt, sp.lim⟩ w
    rw [← c5]; exact hcut
  · obtain ⟨g1, g2⟩ := encTs_getR hs.rel hus hok.1 (fun i h => List.mem_append_left _ h) hv
    exact low_mono lowm (fun _ _ h => h) _ _ g1 (g2 _ (tmpV_sound hs.tr t))
  · have := hs.dr
    cases hd : st.dfr with
    | nil => rw [hd] at this; exact this
    | cons x y => rw [hd] at c1; cases c1
/-- A round's end, as its data tell it. -/
def viewLR (sp : LSpecR) (r : X × St) : T (X × SDR) := match decStR sp r.2 with
  | some d => .br (okStR sp d) (.ret (r.1, d)) .fail
  | none => .fail
noncomputable def roundTTR (E : Env) (ro : RO) (call : CallF) (nt : Nat) (sp : LSpecR) (b : C2) (d : SDR) : T (X × SDR) := (evC2 E ro call nt 10000 b (encStR sp d)).bind (viewLR sp)
noncomputable def roundTR (E : Env) (ro : RO) (call : CallF) (nt : Nat) (sp : LSpecR) (b : C2) (d : SDR) : Option (X × SDR) := (roundTTR E ro call nt sp b d).run
theorem viewL_soundR {sp : LSpecR} {r : X × St} {q : X × SDR} (h : (viewLR sp r).run = some q) : decStR sp r.2 = some q.2 ∧ okStR sp q.2 = true ∧ q.1 = r.1 := by
  unfold viewLR at h
  split at h
  · rename_i d hd
    simp only [T.run] at h
    cases hk : okStR sp d with
    | true =>
      rw [hk] at h
      simp only [cond_true, Option.some.injEq] at h
      subst h; exact ⟨hd, hk, rfl⟩
    | false => rw [hk] at h; cases h
  · cases h
theorem SR.tellR (hs : SR w0 F G ro nt ρ st a w) {sp : LSpecR} {ρ1 : Ren} {st1 : St} {a1 : Act} {w1 : World} {d : SDR} (hro : RoF sp.nxt ro) (hG : G ≤ sp.nxt) (hn : st.hp.nxt = sp.nxt) (hl : st.hp.lim = sp.lim) (hle : ρ.le ρ1) (h1 : SR w0 F G ro nt ρ1 st1 a1 w1) (h : decStR sp st1 = some d) (hok : okStR sp d = true) :
    ∃ ρ' : Ren, ρ.le ρ' ∧ (∀ B l, ρ1.H B = some l → ρ'.H B = some l) ∧ SR w0 F G ro nt ρ' (encStR sp d) a1 w1 := by
  obtain ⟨ρ', g1, g2, g3⟩ := h1.toldR hro hG (by rw [← hn]; exact hs.rel.le0) h hok
  refine ⟨ρ', ⟨fun id x hx => g1 id x (hle id x hx) fun hq => ?_, fun B l hB => g2 B l (hle.leH B l hB)⟩, g2, g3⟩
  rw [hs.rel.fresh id (by rw [hn]; exact hq.1) (by rw [hl]; exact hq.2)] at hx
  cases hx
/-- One round. -/
theorem round_okR (hE : EnvOK P E) {call : CallF} (hc : CallOK P E.G call) {b : C2} {sp : LSpecR} {d d2 : SDR} {x : X} (hro : RoF sp.nxt ro) (hG : E.G ≤ sp.nxt) (hok : ∀ w0 F, b.ok P E w0 F ro nt) (hs : SR w0 F E.G ro nt ρ (encStR sp d) a w) (h : roundTR E ro call nt sp b d = some (x, d2)) (hx : ∀ v, x = .pan v → v.flat = true) :
    b.erase.wp P (fun e a' w' => ∃ ρ', ρ.le ρ' ∧ XR ρ' x e ∧ SR w0 F E.G ro nt ρ' (encStR sp d2) a' w') a w := by
  unfold roundTR roundTTR at h
  obtain ⟨r, h1, h2⟩ := T.run_bind_some h
  obtain ⟨g1, g2, g3⟩ := viewL_soundR h2
  simp only at g1 g2 g3
  refine evC2_sound hE hc 10000 b ρ _ a w r _ (hok _ _) hs h1 fun e a' w' ⟨ρ1, k1, k2, k3⟩ => ?_
  obtain ⟨ρ', q1, q2, q3⟩ := hs.tellR hro hG rfl rfl k1 k2 g1 g2
  refine ⟨ρ', q1, ?_, q3⟩
  rw [← g3] at k3
  cases hxx : x with
  | normal => rw [hxx] at k3; exact k3
  | exit id => rw [hxx] at k3; exact k3
  | ret => rw [hxx] at k3; exact k3
  | pan v =>
    rw [hxx] at k3
    obtain ⟨y, e1, e2⟩ := k3
    exact ⟨y, e1, flat_mono q2 _ _ (hx v hxx) e2⟩
/-- A loop: each round leads on, or out. -/
theorem loop_okR (hE : EnvOK P E) {call : CallF} (hc : CallOK P E.G call) {b : C2} {sp : LSpecR} {id : Nat} {σ : Type} {cn : σ → SDR} (hro : RoF sp.nxt ro) (hG : E.G ≤ sp.nxt) (hok : ∀ w0 F, b.ok P E w0 F ro nt) {R : σ → Prop} {μ : σ → Nat} {D : X → SDR → Prop}
    (step : ∀ s, R s → (∃ s', roundTR E ro call nt sp b (cn s) = some (.normal, cn s') ∧ R s' ∧ μ s' < μ s) ∨ (∃ d2, roundTR E ro call nt sp b (cn s) = some (.exit id, d2) ∧ D .normal d2) ∨ (∃ d2, roundTR E ro call nt sp b (cn s) = some (.ret, d2) ∧ D .ret d2) ∨
      (∃ d2 v, roundTR E ro call nt sp b (cn s) = some (.pan v, d2) ∧ v.flat = true ∧ D (.pan v) d2))
    {s : σ} (hR : R s) (hs : SR w0 F E.G ro nt ρ (encStR sp (cn s)) a w) :
    (Code.block id (.loop b.erase)).wp P (fun e a' w' => ∃ x d2, D x d2 ∧ ∃ ρ', ρ.le ρ' ∧ XR ρ' x e ∧ SR w0 F E.G ro nt ρ' (encStR sp d2) a' w') a w := by
  refine wp_block ?_
  have key : ∀ (n : Nat) (s : σ) (ρ1 : Ren) (a : Act) (w : World), R s → μ s < n → ρ.le ρ1 → SR w0 F E.G ro nt ρ1 (encStR sp (cn s)) a w →
      Code.rounds P b.erase (Exit.inBlock id (fun e a' w' => ∃ x d2, D x d2 ∧ ∃ ρ', ρ.le ρ' ∧ XR ρ' x e ∧ SR w0 F E.G ro nt ρ' (encStR sp d2) a' w')) n a w := by
    intro n
    induction n with
    | zero => intro s ρ1 a w _ h _ _; omega
    | succ n ih =>
      intro s ρ1 a w hR hn hle hs
      rcases step s hR with ⟨s', h1, h2, h3⟩ | ⟨d2, h1, h2⟩ | ⟨d2, h1, h2⟩ | ⟨d2, v, h1, h2, h4⟩
      · refine wp_mono (round_okR hE hc hro hG hok hs h1 (fun v h => by cases h)) fun e a' w' ⟨ρ', k0, k1, k2⟩ => ?_
        simp only [XR] at k1; subst k1
        exact ih s' ρ' a' w' h2 (by omega) (hle.trans k0) k2
      · refine wp_mono (round_okR hE hc hro hG hok hs h1 (fun v h => by cases h)) fun e a' w' ⟨ρ', k0, k1, k2⟩ => ?_
        simp only [XR] at k1; subst k1
        have : Exit.inBlock id (fun e a' w' => ∃ x d2, D x d2 ∧ ∃ ρ', ρ.le ρ' ∧ XR ρ' x e ∧ SR w0 F E.G ro nt ρ' (encStR sp d2) a' w') (.exit id) a' w' := by
          simp only [Exit.inBlock, if_true]
          exact ⟨.normal, d2, h2, ρ', hle.trans k0, rfl, k2⟩
        exact this
      · refine wp_mono (round_okR hE hc hro hG hok hs h1 (fun v h => by cases h)) fun e a' w' ⟨ρ', k0, k1, k2⟩ => ?_
        simp only [XR] at k1; subst k1
        exact ⟨.ret, d2, h2, ρ', hle.trans k0, rfl, k2⟩
      · refine wp_mono (round_okR hE hc hro hG hok hs h1 (fun v' h => by injection h with h; subst h; exact h2)) fun e a' w' ⟨ρ', k0, k1, k2⟩ => ?_
        have k1' := k1
        obtain ⟨y, e1, e2⟩ := k1
        subst e1
        exact ⟨.pan v, d2, h4, ρ', hle.trans k0, k1', k2⟩
  exact wp_loop_rounds _ (key (μ s + 1) s ρ a w hR (by omega) (Ren.le.refl _) hs)
/-- The loop, told. -/
def loopFR {σ : Type} (sp : LSpecR) (par : SDR → Option σ) (cn : σ → SDR) (fin : σ → T (LX × σ)) (st : St) : T (X × St) := match Nat.ble st.hp.nxt sp.nxt with
  | true => match decStR sp ⟨st.tmps, st.dfr, ⟨st.hp.m, sp.nxt, st.hp.lim⟩⟩ with
    | some d => match par d with
      | some s => .br (okStR sp d) ((fin s).bind fun r => .ret (r.1.x, encStR sp (cn r.2))) .fail
      | none => .fail
    | none => .fail
  | false => .fail
/-- Each round does as the model says. -/
def LeadsR {σ : Type} (E : Env) (ro : RO) (call : CallF) (nt : Nat) (sp : LSpecR) (b : C2) (id : Nat) (cn : σ → SDR) (fin : σ → T (LX × σ)) (μ : σ → Nat) : Prop :=
  ∀ s r, (fin s).run = some r → (∃ s', roundTR E ro call nt sp b (cn s) = some (.normal, cn s') ∧ (fin s').run = some r ∧ μ s' < μ s) ∨ (roundTR E ro call nt sp b (cn s) = some (.exit id, cn r.2) ∧ r.1 = .nrm) ∨
    (roundTR E ro call nt sp b (cn s) = some (.ret, cn r.2) ∧ r.1 = .ret) ∨ (∃ v, roundTR E ro call nt sp b (cn s) = some (.pan v, cn r.2) ∧ v.flat = true ∧ r.1 = .pan v)
theorem loopF_okR (hE : EnvOK P E) {call : CallF} (hc : CallOK P E.G call) {b : C2} {id : Nat} {sp : LSpecR} {σ : Type} {cn : σ → SDR} {par : SDR → Option σ} {fin : σ → T (LX × σ)} {μ : σ → Nat} (hro : RoF sp.nxt ro) (hG : E.G ≤ sp.nxt) (hok : ∀ w0 F, b.ok P E w0 F ro nt) (hpar : ∀ d s, par d = some s → d = cn s) (step : LeadsR E ro call nt sp b id cn fin μ) :
    ∀ w0 F, HookOK P E w0 F ro nt (.block id (.loop b.erase)) (loopFR sp par cn fin) := by
  intro w0 F ρ st a w r hs h
  unfold loopFR at h
  split at h <;> try (cases h; done)
  rename_i hn
  have hn := Nat.le_of_ble_eq_true hn
  have hs : SR w0 F E.G ro nt ρ ⟨st.tmps, st.dfr, ⟨st.hp.m, sp.nxt, st.hp.lim⟩⟩ a w := ⟨hs.rel.raise hn, hs.tr, hs.dr, hs.nt⟩
  split at h <;> try (cases h; done)
  rename_i d hd
  split at h <;> try (cases h; done)
  rename_i s hp
  simp only [T.run] at h
  cases hk : okStR sp d with
  | false => rw [hk] at h; cases h
  | true =>
    rw [hk] at h
    simp only [cond_true] at h
    obtain ⟨q, h1, h2⟩ := T.run_bind_some h
    injection h2 with h2; subst h2
    have hl : st.hp.lim = sp.lim := by
      unfold decStR at hd
      split at hd <;> try contradiction
      rename_i hc
      simp only [Bool.and_eq_true] at hc
      exact Nat.eq_of_beq_eq_true hc.2
    obtain ⟨ρ1, g1, _, g3⟩ := hs.tellR hro hG rfl hl (Ren.le.refl _) hs hd hk
    rw [hpar d s hp] at g3
    refine wp_mono (loop_okR hE hc hro (cn := cn) (R := fun s => (fin s).run = some q) (μ := μ) (D := fun x d2 => x = q.1.x ∧ d2 = cn q.2) hG hok (fun s hR => ?_) h1 g3) ?_
    · rcases step s q hR with ⟨s', h1, h2, h3⟩ | ⟨h1, h2⟩ | ⟨h1, h2⟩ | ⟨v, h1, h2, h3⟩
      · exact .inl ⟨s', h1, h2, h3⟩
      · exact .inr (.inl ⟨_, h1, by rw [h2]; rfl, rfl⟩)
      · exact .inr (.inr (.inl ⟨_, h1, by rw [h2]; rfl, rfl⟩))
      · exact .inr (.inr (.inr ⟨_, v, h1, h2, by rw [h3]; rfl, rfl⟩))
    · rintro e a' w' ⟨x, d2, ⟨rfl, rfl⟩, ρ', k0, k1, k2⟩
      exact ⟨ρ', g1.trans k0, k2, k1⟩
end
end Go.Ev
