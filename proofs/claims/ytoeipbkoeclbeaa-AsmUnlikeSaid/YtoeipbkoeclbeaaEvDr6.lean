/- Own text: a region whose order is open. -/
import Derived.Test.YtoeipbkoeclbeaaEvDr5
namespace Go.Ev
section
variable {P : Program} {E : Env} {call : CallF} {w0 : Base} {F : Nat → Prop} {ro : RO} {nt n b0 stride : Nat} {dfr : List ADef} {ρ0 ρ : Ren} {listed : Array Bool} {rs : RS} {a : Act} {w : World} {ops : Array Oper} {j : Nat} {o : Oper}
/-- One operation on a heap of its own. -/
theorem compOp_sound (hE : EnvOK P E) (hc : CallOK P E.G call) {w1 : Base} {F1 : Nat → Prop} {view : RO} {own : Hp} {f : V → Hp → T (V × Eff)} {tmps : Tr V} {q : V × Eff} (hr : Rel w1 F1 E.G view ρ own w) (ht : TR ρ tmps a.tmps)
    (h : (compOp E call view own f tmps o).run = some q) {K : Act → World → Prop} {Q : Exit → Act → World → Prop}
    (hK : ∀ v hp' x w' ρ', (f v hp').run = some q → ρ.le ρ' → Rel w1 F1 E.G view ρ' hp' w' → VR ρ' v x → K (a.put o.dst x) w') : o.wp P a w K Q := by
  obtain ⟨res, h1, h2⟩ := T.run_bind_some h
  have hres := evOp_sound (P := P) hE.ty hr ht hr.glob h1
  unfold Oper.wp
  cases res with
  | val v hp' =>
    obtain ⟨x, w', ρ', e1, e2, e3, e4⟩ := hres
    rw [e1]
    exact hK v hp' x w' ρ' h2 e2 e4 e3
  | skip hp' =>
    obtain ⟨w', ρ', e1, e2, e3⟩ := hres
    rw [e1]
    exact hK .any hp' undef w' ρ' h2 e2 e3 trivial
  | enter f' args =>
    obtain ⟨l, e1, e2⟩ := hres
    obtain ⟨q', h3, h4⟩ := T.run_bind_some h2
    obtain ⟨g1, g2⟩ := hc _ _ _ _ _ h3 w1 F1 ρ w l hr e2
    rw [e1, g1 w]
    refine g2.mono fun e w' he => ?_
    obtain ⟨ρ', k1, k2, k3⟩ := he
    obtain ⟨en, hp'⟩ := q'
    cases en with
    | ret v =>
      obtain ⟨x, rfl, hx⟩ := k3
      exact hK v hp' x w' ρ' h4 k1 k2 hx
    | pan v => cases h4
  | defer fn cap args => cases h2
  | pan v => cases h2
theorem stepO_sound (hE : EnvOK P E) (hc : CallOK P E.G call) {t0 : Tr V} {mask : Nat} {c : Cls} {rs' : RS} (ho : ops[j]? = some o) (d : DI w0 F E.G ro nt n b0 stride dfr ρ0 listed rs a w ρ) (hj : j < n) (hl : listed.getD j true = false)
    (h : (stepO E ro call nt ops.toList t0 b0 stride j o mask c rs).run = some rs') {K : Act → World → Prop} {Q : Exit → Act → World → Prop}
    (hK : ∀ a' w' ρ', DI w0 F E.G ro nt n b0 stride dfr ρ0 (listed.setIfInBounds j true) rs' a' w' ρ' → K a' w') : wpOp P ops Q j K a w := by
  obtain ⟨⟨v2, e⟩, h1, h2⟩ := T.run_bind_some h
  injection h2 with h2; subst h2
  unfold wpOp
  simp only [ho]
  unfold compG at h1
  split at h1
  · cases h1
  · rename_i hg
    obtain ⟨hd, hw⟩ := guardD_sound (st := ⟨rs.tmps, [], rs.hp⟩) d.tr hg
    injection h1 with h1; injection h1 with h3 h4; subst h3; subst h4
    rw [hw]
    exact hK _ _ ρ (d.look hj d.rel trivial hd)
  · rename_i hg
    obtain ⟨hd, hw⟩ := guardD_sound (st := ⟨rs.tmps, [], rs.hp⟩) d.tr hg
    rw [hw]
    refine .inl ?_
    obtain ⟨⟨v, e'⟩, h3, h4⟩ := T.run_bind_some h1
    obtain ⟨v', h5, h6⟩ := T.run_bind_some h4
    injection h6 with h6; injection h6 with h7 h8; subst h7; subst h8
    have hconc : ∀ {ρ' : Ren} {x : Value}, VR ρ' v x → VR ρ' v' x := fun hx => conc_sound h5 hx
    have vOf : ∀ {base lim : Nat} {v1 : V} {hp : Hp} {q : V × Eff}, (newC base lim v1 hp).run = some q → q.1 = v1 := fun h => by
      unfold newC at h
      split at h
      · injection h with h; subst h; rfl
      · split at h <;> try (cases h; done)
        split at h <;> try (cases h; done)
        injection h with h; subst h; rfl
    have area : ∀ {view : RO}, (∀ id b, view id = some b → (comb n rs).at ro id = some b) → (compOp E call view (areaHp b0 stride j) (newC (b0 + j * stride) (b0 + j * stride + stride)) rs.tmps o).run = some (v, e') → o.wp P a w K Q := by
      intro view hv hcomp
      have hr : Rel ⟨w, ρ, (areaHp b0 stride j).nxt⟩ (OwnB ρ (areaHp b0 stride j)) E.G view ρ (areaHp b0 stride j) w := d.rel.rebase (fun id b h => hv id b h) (fun id b h => by cases h) (fun id i1 i2 => (d.opn j hj hl).2 id i1 i2)
      refine compOp_sound hE hc hr d.tr hcomp fun v1 hp' x w' ρ' hf hle hr' hx => ?_
      have e1 := vOf hf
      simp only at e1; subst e1
      have hnew := d.new (o := o) (q := (v, e')) hj hl hv hle hr' (hconc hx) hf hd
      exact hK _ _ ρ' hnew
    cases c <;> simp only [compC] at h3
    case pure => exact area (fun id b h => d.ro_at h) h3
    case new => exact area (fun id b h => d.view h) h3
    case read =>
      have hr : Rel ⟨w, ρ, rs.hp.nxt⟩ (OwnB ρ ⟨.lf, rs.hp.nxt, rs.hp.lim⟩) E.G (viewS ro rs mask) ρ ⟨.lf, rs.hp.nxt, rs.hp.lim⟩ w := d.rel.rebase (own := ⟨.lf, rs.hp.nxt, rs.hp.lim⟩) (fun id b h => d.view h) (fun id b h => by cases h) (fun id i1 i2 => d.rel.fresh id i1 i2)
      refine compOp_sound hE hc hr d.tr h3 fun v1 hp' x w' ρ' hf hle hr' hx => ?_
      unfold readC at hf
      split at hf <;> try (cases hf; done)
      rename_i hu
      injection hf with hf; injection hf with hf1 hf2; subst hf1; subst hf2
      have hx' : VR ρ v1 x := under_mono (fun id y hy hlt => by
        rcases hr'.ren id y hy with k | k
        · exact k
        · have : rs.hp.nxt ≤ id := k.1
          omega) v1 x hu hx
      exact hK _ _ ρ (d.look hj (d.rel.looked (own := ⟨.lf, rs.hp.nxt, rs.hp.lim⟩) (view := viewS ro rs mask) (fun id b h => d.view h) (fun _ => rfl) hr') (hconc hx') hd)
    case eff =>
      obtain ⟨s1, s2, s3⟩ := d.own_sep (mask := mask)
      have hr : Rel ⟨w, ρ, (effHp rs mask).nxt⟩ (OwnB ρ (effHp rs mask)) E.G ro ρ (effHp rs mask) w := d.rel.rebase s1 s2 (fun id i1 i2 => d.rel.fresh id i1 i2)
      refine compOp_sound hE hc hr d.tr h3 fun v1 hp' x w' ρ' hf hle hr' hx => ?_
      injection hf with hf; injection hf with hf1 hf2; subst hf1; subst hf2
      exact hK _ _ ρ' (d.eff hj hle hr' (hconc hx) hd)
    case dload t =>
      split at h3 <;> try (cases h3; done)
      rename_i b hb
      unfold dloadC at h3
      split at h3 <;> try (cases h3; done)
      rename_i ty ad hop
      split at h3 <;> try (cases h3; done)
      rename_i xv hxv
      split at h3 <;> try (cases h3; done)
      rename_i hptr
      obtain ⟨v1, g1, g2⟩ := T.run_bind_some h3
      injection g2 with g2; injection g2 with g3 g4; subst g3; subst g4
      have hblt : b < b0 := by
        unfold blkOf at hb
        split at hb <;> try contradiction
        split at hb <;> try contradiction
        rename_i hble
        injection hb with hb; subst hb
        exact Nat.le_of_ble_eq_true hble
      have hheap : rs.hp.at ro b = (comb n rs).at ro b := by
        have e : (comb n rs).at ro b = match findSs rs.side 0 (2 ^ n - 1) b with
            | some b => some b
            | none => rs.hp.at ro b := by
          simp only [comb, Hp.at, addSs_get]
          cases findSs rs.side 0 (2 ^ n - 1) b <;> rfl
        rw [e]
        cases hf : findSs rs.side 0 (2 ^ n - 1) b with
        | none => rfl
        | some b'' =>
          obtain ⟨k', s', q1, _, q3⟩ := findSs_some hf
          obtain ⟨c1, _, _⟩ := d.area k' s' b b'' q1 q3
          omega
      rw [loadV_congr hptr hheap] at g1
      obtain ⟨x, e1, e2⟩ := loadV_sound (P := P) hE.ty d.rel (opV_sound d.tr d.rel.glob hxv) g1
      have hrun : (execOp a.eval o).run P w = .ok (.value x) w := by
        unfold execOp; rw [hop]; exact run_v e1
      unfold Oper.wp
      rw [hrun]
      exact hK _ _ ρ (d.look hj d.rel (hconc e2) hd)
    case dstore t =>
      split at h3 <;> try (cases h3; done)
      rename_i b hb
      unfold dstoreC at h3
      split at h3 <;> try (cases h3; done)
      rename_i ty ad y hop
      split at h3 <;> try (cases h3; done)
      rename_i xv hxv
      split at h3 <;> try (cases h3; done)
      rename_i hptr
      split at h3 <;> try (cases h3; done)
      rename_i yv hyv
      obtain ⟨hp', g1, g2⟩ := T.run_bind_some h3
      injection g2 with g2; injection g2 with g3 g4; subst g3; subst g4
      obtain ⟨s1, s2, s3⟩ := d.own_sep (mask := 0)
      have e0 : ∀ (l : List (Option Side)) (m : Tr Blk) (i : Nat), addSs m l i 0 = m := by
        intro l
        induction l with
        | nil => intro m i; rfl
        | cons s l ih => intro m i; simp only [addSs, Nat.zero_testBit, ih]
      have eOwn : effHp rs 0 = rs.hp := by simp only [effHp, e0]
      have hr : Rel ⟨w, ρ, (effHp rs 0).nxt⟩ (OwnB ρ (effHp rs 0)) E.G ro ρ (effHp rs 0) w := d.rel.rebase s1 s2 (fun id i1 i2 => d.rel.fresh id i1 i2)
      have g1' : (storeV E.ti (effHp rs 0) ty xv yv).run = some hp' := by rw [eOwn]; exact g1
      obtain ⟨w', q1, q2⟩ := storeV_sound (P := P) hE.ty hr (opV_sound d.tr d.rel.glob hxv) (opV_sound d.tr d.rel.glob hyv) g1'
      have hrun : (execOp a.eval o).run P w = .ok .skip w' := by
        unfold execOp; rw [hop]
        simp only [Sem.run_bind, q1, Result.andThen_ok, Sem.run_pure]
      unfold Oper.wp
      rw [hrun]
      exact hK _ _ ρ (d.eff hj (Ren.le.refl _) q2 (hconc (x := undef) trivial) hd)
/-! ### the whole region -/
theorem Rel.shift {ρ : Ren} {hp : Hp} (h : Rel w0 F E.G ro ρ hp w) (k : Nat) : Rel w0 F E.G ro ρ ⟨hp.m, hp.nxt + k, hp.lim⟩ w :=
  ⟨h.blk, h.inj, h.sep, fun id h1 h2 => h.fresh id (by have h1 : hp.nxt + k ≤ id := h1; omega) h2, h.frame, h.size, h.tape, h.os, h.output, h.glob, fun id x hx => (h.ren id x hx).imp (fun h => h) fun ⟨h1, h2⟩ => ⟨h1, by show id < hp.nxt + k; omega⟩, by have := h.le0; show w0.nxt ≤ hp.nxt + k; omega⟩
theorem Rel.same {ρ : Ren} {hp hp' : Hp} (h : Rel w0 F E.G ro ρ hp w) (h1 : ∀ id, hp'.m.get id = hp.m.get id) (h2 : hp'.nxt = hp.nxt) (h3 : hp'.lim = hp.lim) : Rel w0 F E.G ro ρ hp' w := by
  have hat : ∀ id, hp'.at ro id = hp.at ro id := fun id => by unfold Hp.at; rw [h1]
  refine ⟨fun id b hb => ?_, fun i j b c B t t' hi hj => h.inj i j b c B t t' (by rw [← hat]; exact hi) (by rw [← hat]; exact hj), fun id b hb => h.sep id b (by rw [← h1]; exact hb), fun id i1 i2 => h.fresh id (by rw [← h2]; exact i1) (by rw [← h3]; exact i2), h.frame, h.size, h.tape, h.os, h.output, h.glob, fun id x hx => by rw [h2]; exact h.ren id x hx, by rw [h2]; exact h.le0⟩
  rw [h1]
  exact h.blk id b (by rw [← hat]; exact hb)
/-- The step of a region as a function. -/
def stepF (E : Env) (ro : RO) (call : CallF) (nt : Nat) (ops : Array Oper) (cl : List Cls) (t0 : Tr V) (b0 stride : Nat) (j : Nat) (rs : RS) : Option RS := (stepR E ro call nt ops.toList (masksOf ops) cl t0 b0 stride j rs).run
theorem runR_runL {cl : List Cls} {t0 : Tr V} : ∀ (n j : Nat) (rs : RS), (runR E ro call nt ops.toList (masksOf ops) cl t0 b0 stride j n rs).run = runL (stepF E ro call nt ops cl t0 b0 stride) (List.range' j n) rs
  | 0, _, _ => rfl
  | n + 1, j, rs => by
    simp only [runR, List.range'_succ, runL, T.run_bind, stepF]
    congr 1
    funext rs'
    exact runR_runL n (j + 1) rs'
theorem stepF_some {cl : List Cls} {t0 : Tr V} {rs rs' : RS} (h : stepF E ro call nt ops cl t0 b0 stride j rs = some rs') : ∃ o c, ops[j]? = some o ∧ cl[j]? = some c ∧ (masksOf ops)[j]? = some ((masksOf ops).getD j 0) ∧ (stepO E ro call nt ops.toList t0 b0 stride j o ((masksOf ops).getD j 0) c rs).run = some rs' := by
  unfold stepF stepR at h
  split at h <;> try (cases h; done)
  rename_i o ho
  split at h <;> try (cases h; done)
  rename_i m hm
  split at h <;> try (cases h; done)
  rename_i c hc
  have e : (masksOf ops).getD j 0 = m := by rw [List.getD_eq_getElem?_getD, hm]; rfl
  exact ⟨o, c, by simpa using ho, hc, by rw [e]; exact hm, by rw [e]; exact h⟩
theorem stepF_of {cl : List Cls} {t0 : Tr V} {rs rs' : RS} {o : Oper} {c : Cls} (h1 : ops[j]? = some o) (h2 : cl[j]? = some c) (h3 : (masksOf ops)[j]? = some ((masksOf ops).getD j 0)) (h : (stepO E ro call nt ops.toList t0 b0 stride j o ((masksOf ops).getD j 0) c rs).run = some rs') : stepF E ro call nt ops cl t0 b0 stride j rs = some rs' := by
  unfold stepF stepR
  have h1' : ops.toList[j]? = some o := by simpa using h1
  rw [h1', h2, h3]
  exact h
theorem evDraw_sound (hE : EnvOK P E) (hc : CallOK P E.G call) : DrawOK P E call := by
  intro w0 F ro nt ρ id ops st a w r hs h
  unfold evDraw at h
  split at h <;> try (cases h; done)
  rename_i dd hdc
  have hok := ok_of hdc
  simp only [drawOk, Bool.and_eq_true] at hok
  obtain ⟨hns, hall⟩ := hok
  generalize hcl : clsList E dd ops.toList = cl at h hall
  generalize hst : strideOf cl = stride at h
  unfold drawRun at h
  obtain ⟨rf, h1, h2⟩ := T.run_bind_some h
  have h1' : runL (stepF E ro call nt ops cl st.tmps st.hp.nxt stride) (List.range' 0 ops.size) (drawStart st ops.size stride) = some rf := by
    rw [← runR_runL]; exact h1
  unfold drawEnd at h2
  split at h2 <;> try (cases h2; done)
  rename_i hble
  have hble := Nat.le_of_ble_eq_true hble
  injection h2 with h2; subst h2
  have hcll : cl.length = ops.size := by rw [← hcl]; simp [clsList]
  have hzip : ∀ i o c, ops[i]? = some o → cl[i]? = some c → (ops.toList.zip cl)[i]? = some (o, c) := fun i o c ho hc' => by
    rw [List.getElem?_zip_eq_some]; exact ⟨by simpa using ho, hc'⟩
  have hclOf : ∀ i, i < ops.size → ∃ c, cl[i]? = some c := fun i hi => ⟨cl[i], by rw [List.getElem?_eq_getElem (by omega)]⟩
  refine wp_region_any hE.mixed ?_
  have hstart : DI w0 F E.G ro nt ops.size st.hp.nxt stride st.dfr ρ (Array.replicate ops.size false) (drawStart st ops.size stride) a { w with drawn := w.drawn + 1 } ρ := by
    refine ⟨Ren.le.refl _, ?_, hs.tr, hs.dr, hs.nt, by simp [drawStart], by simp, fun j hj _ => ⟨by simp [drawStart, hj], fun id i1 i2 => ?_⟩, fun j l id b hl _ => ?_, Nat.le_refl _, hs.rel.sep, hs.rel.le0⟩
    · have hsh := (hs.rel.draw (w.drawn + 1)).shift (ops.size * stride)
      refine Rel.same hsh (fun id => ?_) rfl rfl
      simp only [comb, drawStart, addSs_get]
      cases hf : findSs (List.replicate ops.size none) 0 (2 ^ ops.size - 1) id with
      | none => rfl
      | some b =>
        obtain ⟨k, s, q1, _, _⟩ := findSs_some hf
        rw [List.getElem?_replicate] at q1
        split at q1 <;> cases q1
    · have := area_top (b0 := st.hp.nxt) (s := stride) hj
      exact hs.rel.fresh id (by omega) (by omega)
    · simp only [drawStart] at hl
      rw [List.getElem?_replicate] at hl
      split at hl <;> cases hl
  have hrem : rem ops.size (Array.replicate ops.size false) = List.range' 0 ops.size := by
    unfold rem
    rw [List.range_eq_range', List.filter_eq_self]
    intro k hk
    rw [List.mem_range'] at hk
    obtain ⟨i, hi, rfl⟩ := hk
    simp [Array.getD_eq_getD_getElem?, hi]
  refine draw_any (f := stepF E ro call nt ops cl st.tmps st.hp.nxt stride) (rf := rf)
    (fun listed rs a' w' => ∃ ρ', DI w0 F E.G ro nt ops.size st.hp.nxt stride st.dfr ρ listed rs a' w' ρ')
    (fun i o ho e he hb => ?back) (fun i j hji hi hbit s r1 r2 g1 g2 => ?swap) (fun listed rs a' w' i rs' ⟨ρ', hd⟩ hi hl hbits hf K hK => ?step) (fun listed a' w' hnil ⟨ρ', hd⟩ => ?fin)
    ops.size _ _ a _ (by simp) (by rw [hrem]; simp) (fun k hk hl b hb => ?closed) ⟨ρ, hstart⟩ (by rw [hrem]; exact h1')
  case back =>
    have hi : i < ops.size := (Array.getElem?_eq_some_iff.1 ho).1
    obtain ⟨c, hc'⟩ := hclOf i hi
    have := (okAll_spec hall i o c (hzip i o c ho hc')).1 e he hb
    omega
  case swap =>
    obtain ⟨oj, cj, a1, a2, a3, a4⟩ := stepF_some g1
    obtain ⟨oi, ci, b1, b2, b3, b4⟩ := stepF_some g2
    have hor := (okAll_spec hall j oj cj (hzip j oj cj a1 a2)).2 i oi ci hji (hzip i oi ci b1 b2)
    simp only [Nat.zero_add] at hor
    rcases hor with hor | ⟨hap, hcp⟩
    · have hor : Nat.testBit ((masksOf ops).getD i 0) j = true := hor
      rw [hbit] at hor; cases hor
    · have hback : ∀ (i : Nat) (o : Oper) (e : Edge), ops[i]? = some o → e ∈ o.after.toList → Region.binds .any e = true → e.on < i := fun i o e ho he hb => by
        have hi : i < ops.size := (Array.getElem?_eq_some_iff.1 ho).1
        obtain ⟨c, hc'⟩ := hclOf i hi
        have := (okAll_spec hall i o c (hzip i o c ho hc')).1 e he hb
        omega
      have hmj : Nat.testBit ((masksOf ops).getD j 0) i = false := by
        cases hb : Nat.testBit ((masksOf ops).getD j 0) i
        · rfl
        · exfalso
          have lt : ∀ (k : Nat), ∀ (b : Nat), k < ops.size → Nat.testBit ((masksOf ops).getD k 0) b = true → b < k := by
            intro k
            induction k using Nat.strongRecOn with
            | _ k ih =>
              intro b hk hb
              obtain ⟨e, q1, q2, q3⟩ := masksOf_bits (ops := ops) (o := ops[k]) (by simp [hk]) hb
              have q4 := hback k ops[k] e (by simp [hk]) q1 q2
              rcases q3 with q3 | ⟨q3, q5⟩
              · omega
              · have := ih e.on q4 b (by omega) q5
                omega
          have := lt j i (by omega) hb
          omega
      have hdap : DAp st.tmps st.hp.nxt cj ci := by
        refine dap_of hdc ?_ ?_
        · rw [hcl]; exact List.mem_of_getElem? a2
        · rw [hcl]; exact List.mem_of_getElem? b2
      obtain ⟨r, r3, r4⟩ := stepO_swap (ops := ops) (i := i) (j := j) (by omega) hcp hdap hap hbit hmj a4 b4
      exact ⟨r, stepF_of b1 b2 b3 r3, stepF_of a1 a2 a3 r4⟩
  case step =>
    obtain ⟨o, c, a1, a2, _, a4⟩ := stepF_some hf
    exact stepO_sound hE hc a1 hd hi hl a4 fun a'' w'' ρ'' hd' => hK a'' w'' ⟨ρ'', hd'⟩
  case fin =>
    refine ⟨ρ', hd.le, ⟨?_, hd.tr, hd.dr, hd.nt⟩, rfl⟩
    exact hd.rel
  case closed =>
    simp [Array.getD_eq_getD_getElem?, hk] at hl
end
end Go.Ev
