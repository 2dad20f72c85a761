/- Own text: that the abstract operations say what the model's do: sums, comparisons of structs, conversions, places. -/
import Derived.Test.YtoeipbkoeclbeaaEvSd1
import Derived.Laws.StructEq
namespace Go.Ev
section
variable {P : Program} {ti : Nat → Option TI} {ρ : Ren} {G : Nat}
theorem get_toList {l : List Value} {i : Nat} : (⟨l⟩ : Array Value)[i]? = l[i]? := by simp
theorem eqField_sound (ht : TyOK P ti) {xs ys : List V} {rx ry : List Value} (hx : VRs ρ xs rx) (hy : VRs ρ ys ry) {f : Field} {r : V} (h : eqField ti xs ys f = some r) (n : Nat) (w : World) :
    ∃ a b q, (part f.type ⟨rx⟩ f.offset).run P w = .ok a w ∧ (part f.type ⟨ry⟩ f.offset).run P w = .ok b w ∧ (Op.equalIn (n + 1) f.type a b).run P w = .ok q w ∧ VR ρ r (.bool q) := by
  unfold eqField at h
  split at h <;> try contradiction
  rename_i i hi
  split at h <;> try contradiction
  rename_i hs
  split at h <;> try contradiction
  rename_i x hxs
  split at h <;> try contradiction
  rename_i y hys
  obtain ⟨a, ha, hxa⟩ := hx.get hxs
  obtain ⟨b, hb, hyb⟩ := hy.get hys
  obtain ⟨q, hq, hr⟩ := eq1_sound (P := P) (w := w) (n := n) (t := f.type) (ht.und _ _ hi) hxa hyb h
  have hag : isAggD i.und = false := by
    cases hu : i.und <;> rw [hu] at hs <;> simp_all [isIntD, isBoolD, isStrD, isAggD]
  refine ⟨a, b, q, ?_, ?_, hq, hr⟩
  · simp [part, ht.run_agg hi, hag, ha]
  · simp [part, ht.run_agg hi, hag, hb]
theorem eqFields_sound (ht : TyOK P ti) {xs ys : List V} {rx ry : List Value} (hx : VRs ρ xs rx) (hy : VRs ρ ys ry) (n : Nat) (w : World) :
    ∀ {fs : List Field} {r : V}, eqFields ti xs ys fs = some r → ∃ q, (Op.eqFields (n + 1) ⟨rx⟩ ⟨ry⟩ fs).run P w = .ok q w ∧ VR ρ r (.bool q)
  | [], _, h => by injection h with h; subst h; exact ⟨true, rfl, rfl⟩
  | f :: fs, r, h => by
    unfold eqFields at h
    split at h <;> try contradiction
    rename_i hn
    split at h <;> try contradiction
    rename_i e he
    split at h <;> try contradiction
    rename_i r' hr'
    obtain ⟨a, b, q, h1, h2, h3, h4⟩ := eqField_sound ht hx hy he n w
    obtain ⟨q', h5, h6⟩ := eqFields_sound ht hx hy n w hr'
    refine ⟨q && q', ?_, andV_sound h4 h6 h⟩
    simp only [decide_eq_true_eq] at hn
    simp only [Op.eqFields, hn, ne_eq, not_false_iff, if_true, Sem.run_bind, h1, h2, h3, Result.andThen_ok]
    cases q <;> simp [h5]
/-- Values for which '==' is the model's general one. -/
def plainA : Value → Bool
  | .bool _ | .pointer _ | .slice .. | .nilFunc | .func .. | .nilIface | .iface .. => true
  | _ => false
theorem run_eql_plain {t : TypeId} {a b : Value} {q : Bool} {w : World} (h : plainA a = true) (hq : (Op.equal t a b).run P w = .ok q w) :
    (binOp .eql t a b).run P w = .ok (.bool q) w ∧ (binOp .neq t a b).run P w = .ok (.bool (!q)) w := by
  cases a <;> simp only [plainA, Bool.false_eq_true] at h
  all_goals constructor <;> simp [binOp, hq]
theorem run_guard_plain {op : BinOp} {t : TypeId} {xo yo : Operand} {a b : Value} {w : World} (h : plainA a = true) (h2 : ¬ (a = .nilIface ∧ b = .nilIface)) :
    (eqGuard op t xo yo a b).run P w = .ok () w := by
  cases a <;> simp only [plainA, Bool.false_eq_true] at h
  all_goals first
    | (cases op <;> simp [eqGuard]; done)
    | (cases b <;> first | (exact absurd ⟨rfl, rfl⟩ h2) | (cases op <;> simp [eqGuard]; done))
theorem eq1_plain {d : TypeDesc} {x y r : V} {a b : Value} (hx : VR ρ x a) (hy : VR ρ y b) (h3 : ∀ k i, x ≠ .int k i) (h4 : ∀ s, x ≠ .str s) (h : eq1 d x y = some r) :
    plainA a = true ∧ ¬ (a = .nilIface ∧ b = .nilIface) := by
  unfold eq1 at h
  cases x <;> simp only [VR] at hx <;> first | contradiction | (exact absurd rfl (h3 _ _)) | (exact absurd rfl (h4 _)) | skip
  · subst hx; simp [plainA]
  · subst hx; simp [plainA]
  · subst hx; simp [plainA]
  · obtain ⟨_, _, _, _, rfl, _⟩ := hx; simp [plainA]
  · subst hx; simp [plainA]
  · obtain ⟨_, _, _, _, _, _, rfl, _⟩ := hx; simp [plainA]
  · obtain ⟨_, _, rfl, _⟩ := hx; simp [plainA]
  · subst hx; simp [plainA]
  · obtain ⟨_, rfl, _⟩ := hx; simp [plainA]
  · subst hx
    refine ⟨rfl, fun hb => ?_⟩
    cases y <;> simp only [reduceCtorEq] at h
    simp only [VR] at hy
    obtain ⟨_, rfl, _⟩ := hy
    cases hb.2
theorem run_equal_nili {n : Nat} {t : TypeId} {ms : Array (String × TypeId)} {w : World} (hu : P.underlying t = some (.interface ms)) : (Op.equalIn (n + 1) t .nilIface .nilIface).run P w = .ok true w := by
  simp [Op.equalIn, underlying, hu]
theorem run_guard_nili {op : BinOp} {t : TypeId} {xo yo : Operand} {w : World} (h : (isConstO xo || isConstO yo) = true) : (eqGuard op t xo yo .nilIface .nilIface).run P w = .ok () w := by
  cases xo <;> cases yo <;> first | exact (Bool.false_ne_true h).elim | (cases op <;> rfl)
theorem eqV_sound (ht : TyOK P ti) {t : TypeId} {cst : Bool} {x y r : V} {a b : Value} (hx : VR ρ x a) (hy : VR ρ y b) (hni : ∀ k i, x ≠ .int k i) (hns : ∀ s, x ≠ .str s) (h : eqV ti t cst x y = some r) (op : BinOp) (xo yo : Operand) (hc : cst = (isConstO xo || isConstO yo)) (w : World) :
    ∃ q, (eqGuard op t xo yo a b).run P w = .ok () w ∧ (binOp .eql t a b).run P w = .ok (.bool q) w ∧ (binOp .neq t a b).run P w = .ok (.bool (!q)) w ∧ VR ρ r (.bool q) := by
  unfold eqV at h
  split at h <;> try contradiction
  rename_i i hi
  have plain : eq1 i.und x y = some r →
      ∃ q, (eqGuard op t xo yo a b).run P w = .ok () w ∧ (binOp .eql t a b).run P w = .ok (.bool q) w ∧ (binOp .neq t a b).run P w = .ok (.bool (!q)) w ∧ VR ρ r (.bool q) := by
    intro he
    obtain ⟨q, hq, hr⟩ := eq1_sound (P := P) (w := w) (n := 9999) (ht.und _ _ hi) hx hy he
    have hq' : (Op.equal t a b).run P w = .ok q w := hq
    obtain ⟨h1, h2⟩ := eq1_plain hx hy hni hns he
    exact ⟨q, run_guard_plain h1 h2, (run_eql_plain h1 hq').1, (run_eql_plain h1 hq').2, hr⟩
  split at h
  · -- structs
    rename_i xs
    split at h <;> try contradiction
    rename_i ys
    unfold eqAgg at h
    split at h <;> try contradiction
    rename_i fs hfs
    split at h <;> try contradiction
    rename_i hes
    simp only [Bool.or_eq_false_iff] at hes
    obtain ⟨rx, rfl, hrx⟩ := hx
    obtain ⟨ry, rfl, hry⟩ := hy
    have hf : P.fieldsOf t = fs := by simp [Program.fieldsOf, ht.und _ _ hi, hfs]
    have hu : P.underlying t = some (.struct (P.fieldsOf t)) := by rw [hf, ← hfs]; exact ht.und _ _ hi
    obtain ⟨q, hq, hr⟩ := eqFields_sound (P := P) ht hrx hry 9998 w h
    have he := run_equalIn_struct (P := P) w 9999 t ⟨rx⟩ ⟨ry⟩ hu (ht.stood t i fs hi hfs hes.2)
    rw [hf, hq] at he
    refine ⟨q, run_eqGuard_agg w _ _ _ _ _ _ (ht.egt t i fs hi hfs hes.1), ?_, ?_, hr⟩
    · rw [run_eql_struct, he]; rfl
    · rw [run_neq_struct, he]; rfl
  · split at h
    · -- two nil interface values
      obtain ⟨hcc, rfl⟩ := onlyIf_some h
      simp only [Bool.and_eq_true] at hcc
      obtain ⟨h1, h2⟩ := hcc
      simp only [VR] at hx hy; subst hx; subst hy
      have hu := ht.und _ _ hi
      cases hd : i.und <;> rw [hd] at h2 <;> simp only [isIfaceD, Bool.false_eq_true] at h2
      rw [hd] at hu
      have hq : (Op.equal t .nilIface .nilIface).run P w = .ok true w := run_equal_nili (n := 9999) hu
      refine ⟨true, run_guard_nili (by rw [← hc]; exact h1), (run_eql_plain rfl hq).1, (run_eql_plain rfl hq).2, rfl⟩
    · exact plain h
  · exact plain h
theorem intBin_sound {op : BinOp} {k k' : IntKind} {a b : I} {x y : Int} {t : TypeId} {r : V} {w : World} (ha : IR a x) (hb : IR b y) (hk : isShift op = true ∨ k = k') (h : (intBin op k a b).run = some r) :
    ∃ v, (binOp op t (.int k x) (.int k' y)).run P w = .ok v w ∧ VR ρ r v := by
  cases op <;> simp only [intBin] at h
  case add => injection h with h; subst h; obtain rfl := hk.resolve_left (by simp [isShift]); exact ⟨_, by simp [binOp, Op.intArith], _, rfl, IR.iadd ha hb⟩
  case sub => injection h with h; subst h; obtain rfl := hk.resolve_left (by simp [isShift]); exact ⟨_, by simp [binOp, Op.intArith], _, rfl, IR.isub ha hb⟩
  case mul => injection h with h; subst h; obtain rfl := hk.resolve_left (by simp [isShift]); exact ⟨_, by simp [binOp, Op.intArith], _, rfl, IR.imul ha hb⟩
  case quo =>
    obtain ⟨r', h1, h2⟩ := T.run_bind_some h
    injection h2 with h2; subst h2
    obtain rfl := hk.resolve_left (by simp [isShift])
    obtain ⟨hy, hr⟩ := IR.iquo ha hb h1
    exact ⟨_, by simp [binOp, Op.intDiv, hy], _, rfl, hr⟩
  case rem =>
    obtain ⟨r', h1, h2⟩ := T.run_bind_some h
    injection h2 with h2; subst h2
    obtain rfl := hk.resolve_left (by simp [isShift])
    obtain ⟨hy, hr⟩ := IR.irem ha hb h1
    exact ⟨_, by simp [binOp, Op.intDiv, hy], _, rfl, hr⟩
  case and => injection h with h; subst h; obtain rfl := hk.resolve_left (by simp [isShift]); exact ⟨_, by simp only [binOp, Op.intBits, ne_eq, not_true, if_false]; rfl, _, rfl, IR.iand ha hb⟩
  case or => injection h with h; subst h; obtain rfl := hk.resolve_left (by simp [isShift]); exact ⟨_, by simp only [binOp, Op.intBits, ne_eq, not_true, if_false]; rfl, _, rfl, IR.ior ha hb⟩
  case xor => injection h with h; subst h; obtain rfl := hk.resolve_left (by simp [isShift]); exact ⟨_, by simp only [binOp, Op.intBits, ne_eq, not_true, if_false]; rfl, _, rfl, IR.ixor ha hb⟩
  case andNot => injection h with h; subst h; obtain rfl := hk.resolve_left (by simp [isShift]); exact ⟨_, by simp only [binOp, Op.intBits, ne_eq, not_true, if_false]; rfl, _, rfl, IR.iandNot ha hb⟩
  case shl =>
    obtain ⟨r', h1, h2⟩ := T.run_bind_some h
    injection h2 with h2; subst h2
    obtain ⟨hy, hr⟩ := IR.ishl ha hb h1
    exact ⟨_, by simp [binOp, Op.shift, hy], _, rfl, hr⟩
  case shr =>
    obtain ⟨r', h1, h2⟩ := T.run_bind_some h
    injection h2 with h2; subst h2
    obtain ⟨hy, hr⟩ := IR.ishr ha hb h1
    exact ⟨_, by simp [binOp, Op.shift, hy], _, rfl, hr⟩
  case eql => injection h with h; subst h; obtain rfl := hk.resolve_left (by simp [isShift]); exact ⟨_, by simp [binOp, Op.intCmp], eqI_sound ha hb⟩
  case neq =>
    rw [T.run_ofOpt] at h
    obtain rfl := hk.resolve_left (by simp [isShift])
    exact ⟨.bool (!(x == y)), by simp [binOp, Op.intCmp]; rfl, notV_sound (eqI_sound ha hb) h⟩
  case lss => injection h with h; subst h; obtain rfl := hk.resolve_left (by simp [isShift]); exact ⟨_, by simp [binOp, Op.intCmp], ltI_sound ha hb⟩
  case leq => injection h with h; subst h; obtain rfl := hk.resolve_left (by simp [isShift]); exact ⟨_, by simp [binOp, Op.intCmp], leI_sound ha hb⟩
  case gtr => injection h with h; subst h; obtain rfl := hk.resolve_left (by simp [isShift]); exact ⟨_, by simp [binOp, Op.intCmp], ltI_sound hb ha⟩
  case geq => injection h with h; subst h; obtain rfl := hk.resolve_left (by simp [isShift]); exact ⟨_, by simp [binOp, Op.intCmp], leI_sound hb ha⟩
theorem run_guard_int {op : BinOp} {t : TypeId} {xo yo : Operand} {k : IntKind} {x : Int} {b : Value} {w : World} : (eqGuard op t xo yo (.int k x) b).run P w = .ok () w := by
  cases op <;> simp [eqGuard]
theorem run_guard_str {op : BinOp} {t : TypeId} {xo yo : Operand} {s : ByteArray} {b : Value} {w : World} : (eqGuard op t xo yo (.string s) b).run P w = .ok () w := by
  cases op <;> simp [eqGuard]
theorem strBin_sound {op : BinOp} {a b : List I} {t : TypeId} {r : V} {w : World} (ha : BOk a) (hb : BOk b) (h : (strBin op a b).run = some r) :
    ∃ v, (binOp op t (.string ⟨⟨a.map byteOf⟩⟩) (.string ⟨⟨b.map byteOf⟩⟩)).run P w = .ok v w ∧ VR ρ r v := by
  have tl : ∀ l : List UInt8, (⟨⟨l⟩⟩ : ByteArray).toList = l := fun l => by rw [ByteArray.toList_eq]
  cases op <;> simp only [strBin] at h <;> try (cases h; done)
  case add =>
    split at h <;> try (cases h; done)
    rename_i hs
    have hs' := Nat.le_of_ble_eq_true hs
    injection h with h; subst h
    refine ⟨.string ⟨⟨(a ++ b).map byteOf⟩⟩, ?_, rfl, fun i hi => ?_⟩
    · have h1 : ¬ (((⟨⟨a.map byteOf⟩⟩ : ByteArray).size + (⟨⟨b.map byteOf⟩⟩ : ByteArray).size : Nat) : Int) > IntKind.i64.max := by
        have e1 : (⟨⟨a.map byteOf⟩⟩ : ByteArray).size = a.length := by simp [ByteArray.size]
        have e2 : (⟨⟨b.map byteOf⟩⟩ : ByteArray).size = b.length := by simp [ByteArray.size]
        rw [e1, e2]
        simp [IntKind.max, IntKind.signed, IntKind.bits]; omega
      simp only [binOp, Op.stringOp]
      rw [if_neg h1]
      simp only [Sem.run_pure]
      congr 2
      apply ByteArray.ext
      simp
    · rcases List.mem_append.1 hi with h | h
      · exact ha i h
      · exact hb i h
  case eql =>
    rw [T.run_ofOpt] at h
    exact ⟨_, by simp only [binOp, Op.stringOp, tl]; rfl, eqStr_sound ha hb h⟩
  case neq =>
    rw [T.run_ofOpt] at h
    obtain ⟨e, he, hn⟩ := Option.bind_eq_some_iff.1 h
    exact ⟨_, by simp only [binOp, Op.stringOp, tl]; rfl, notV_sound (eqStr_sound ha hb he) hn⟩
theorem symBin_sound {op : BinOp} {t : TypeId} {w : World} {x y : List UInt8} {r : V} (h : (symBin op x y).run = some r) : ∃ v, (binOp op t (.string ⟨⟨x⟩⟩) (.string ⟨⟨y⟩⟩)).run P w = .ok v w ∧ VR ρ r v := by
  have tl : ∀ l : List UInt8, (⟨⟨l⟩⟩ : ByteArray).toList = l := fun l => by rw [ByteArray.toList_eq]
  unfold symBin at h
  split at h
  · injection h with h; subst h
    exact ⟨_, by simp only [binOp, Op.stringOp, tl]; rfl, rfl⟩
  · injection h with h; subst h
    exact ⟨_, by simp only [binOp, Op.stringOp, tl]; rfl, rfl⟩
  · cases h
theorem binV_sound (ht : TyOK P ti) {op : BinOp} {t : TypeId} {cst : Bool} {x y r : V} {a b : Value} (hx : VR ρ x a) (hy : VR ρ y b) (h : (binV ti op t cst x y).run = some r) (xo yo : Operand) (hc : cst = (isConstO xo || isConstO yo)) (w : World) :
    ∃ v, (eqGuard op t xo yo a b).run P w = .ok () w ∧ (binOp op t a b).run P w = .ok v w ∧ VR ρ r v := by
  unfold binV at h
  split at h
  · split at h
    · split at h <;> try (cases h; done)
      rename_i hk
      simp only [Bool.or_eq_true, decide_eq_true_eq] at hk
      obtain ⟨n, rfl, hn⟩ := hx
      obtain ⟨m, rfl, hm⟩ := hy
      obtain ⟨v, h1, h2⟩ := intBin_sound (P := P) (ρ := ρ) (t := t) (w := w) hn hm hk h
      exact ⟨v, run_guard_int, h1, h2⟩
    · cases h
  · split at h
    · obtain ⟨rfl, ha⟩ := hx
      obtain ⟨rfl, hb⟩ := hy
      obtain ⟨v, h1, h2⟩ := strBin_sound (P := P) (ρ := ρ) (t := t) (w := w) ha hb h
      exact ⟨v, run_guard_str, h1, h2⟩
    · obtain ⟨rfl, ha⟩ := hx
      simp only [VR] at hy; subst hy
      obtain ⟨v, h1, h2⟩ := symBin_sound (P := P) (ρ := ρ) (t := t) (w := w) h
      exact ⟨v, run_guard_str, h1, h2⟩
    · cases h
  · split at h
    · simp only [VR] at hx; subst hx
      obtain ⟨rfl, hb⟩ := hy
      obtain ⟨v, h1, h2⟩ := symBin_sound (P := P) (ρ := ρ) (t := t) (w := w) h
      exact ⟨v, run_guard_str, h1, h2⟩
    · simp only [VR] at hx hy; subst hx; subst hy
      obtain ⟨v, h1, h2⟩ := symBin_sound (P := P) (ρ := ρ) (t := t) (w := w) h
      exact ⟨v, run_guard_str, h1, h2⟩
    · cases h
  · rename_i h1 h2 _
    unfold eqBin at h
    split at h
    · rw [T.run_ofOpt] at h
      obtain ⟨q, e1, e2, _, e4⟩ := eqV_sound ht hx hy (fun k i e => h1 k i e) (fun s e => h2 s e) h .eql xo yo hc w
      exact ⟨_, e1, e2, e4⟩
    · rw [T.run_ofOpt] at h
      obtain ⟨e, he, hn⟩ := Option.bind_eq_some_iff.1 h
      obtain ⟨q, e1, _, e3, e4⟩ := eqV_sound ht hx hy (fun k i e => h1 k i e) (fun s e => h2 s e) he .neq xo yo hc w
      exact ⟨_, e1, e3, notV_sound e4 hn⟩
    · cases h
end
end Go.Ev
