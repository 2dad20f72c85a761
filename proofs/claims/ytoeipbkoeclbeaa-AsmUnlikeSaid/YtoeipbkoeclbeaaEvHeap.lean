/- Own text: abstract values and an abstract heap, and what it means that the model's world is such. -/
import Derived.Test.YtoeipbkoeclbeaaEvInt
import Derived.Calls
namespace Go.Ev

/-! ### a map from numbers, that the kernel reckons fast -/
inductive Tr (α : Type) where
  | lf
  | nd (v : Option α) (l r : Tr α)
def Tr.get {α : Type} : Tr α → Nat → Option α
  | .lf, _ => none
  | .nd v l r, n => match Nat.beq n 0 with
    | true => v
    | false => match Nat.beq (n % 2) 1 with
      | true => l.get (n / 2)
      | false => r.get (n / 2 - 1)
def Tr.upd {α : Type} (x : Option α) : Nat → Tr α → Nat → Tr α
  | 0, t, _ => t
  | f + 1, .lf, n => match Nat.beq n 0 with
    | true => .nd x .lf .lf
    | false => match Nat.beq (n % 2) 1 with
      | true => .nd none (Tr.upd x f .lf (n / 2)) .lf
      | false => .nd none .lf (Tr.upd x f .lf (n / 2 - 1))
  | f + 1, .nd v l r, n => match Nat.beq n 0 with
    | true => .nd x l r
    | false => match Nat.beq (n % 2) 1 with
      | true => .nd v (Tr.upd x f l (n / 2)) r
      | false => .nd v l (Tr.upd x f r (n / 2 - 1))
def Tr.set {α : Type} (t : Tr α) (n : Nat) (x : Option α) : Tr α := Tr.upd x (n + 1) t n
theorem Tr.get_lf {α : Type} (n : Nat) : (Tr.lf : Tr α).get n = none := rfl
theorem Tr.get_upd {α : Type} (x : Option α) : ∀ (f : Nat) (t : Tr α) (n m : Nat), n < f → (Tr.upd x f t n).get m = if m = n then x else t.get m := by
  intro f
  induction f with
  | zero => intro t n m h; omega
  | succ f ih =>
    intro t n m h
    have b0 : ∀ k : Nat, Nat.beq k 0 = decide (k = 0) := fun k => by cases k <;> rfl
    have b1 : ∀ k : Nat, Nat.beq (k % 2) 1 = decide (k % 2 = 1) := fun k => by
      have : k % 2 = 0 ∨ k % 2 = 1 := by omega
      rcases this with h | h <;> rw [h] <;> rfl
    by_cases hn : n = 0
    · subst hn
      cases t with
      | lf =>
        by_cases hm : m = 0
        · subst hm; rfl
        · simp only [Tr.upd, Tr.get, b0, b1, hm, decide_true, decide_false, if_false]
          cases decide (m % 2 = 1) <;> rfl
      | nd v l r =>
        by_cases hm : m = 0
        · subst hm; rfl
        · simp only [Tr.upd, Tr.get, b0, b1, hm, decide_true, decide_false, if_false]
    · by_cases hp : n % 2 = 1
      · have h2 : n / 2 < f := by omega
        cases t with
        | lf =>
          by_cases hm : m = 0
          · subst hm; simp only [Tr.upd, Tr.get, b0, b1, hn, hp, decide_true, decide_false]; rw [if_neg (by omega)]
          · by_cases hmp : m % 2 = 1
            · simp only [Tr.upd, Tr.get, b0, b1, hn, hp, hm, hmp, decide_true, decide_false, ih _ _ _ h2]
              by_cases e : m = n
              · subst e; simp
              · rw [if_neg (by omega), if_neg e]
            · simp only [Tr.upd, Tr.get, b0, b1, hn, hp, hm, hmp, decide_true, decide_false]; rw [if_neg (by omega)]
        | nd v l r =>
          by_cases hm : m = 0
          · subst hm; simp only [Tr.upd, Tr.get, b0, b1, hn, hp, decide_true, decide_false]; rw [if_neg (by omega)]
          · by_cases hmp : m % 2 = 1
            · simp only [Tr.upd, Tr.get, b0, b1, hn, hp, hm, hmp, decide_true, decide_false, ih _ _ _ h2]
              by_cases e : m = n
              · subst e; simp
              · rw [if_neg (by omega), if_neg e]
            · simp only [Tr.upd, Tr.get, b0, b1, hn, hp, hm, hmp, decide_true, decide_false]; rw [if_neg (by omega)]
      · have h2 : n / 2 - 1 < f := by omega
        cases t with
        | lf =>
          by_cases hm : m = 0
          · subst hm; simp only [Tr.upd, Tr.get, b0, b1, hn, hp, decide_true, decide_false]; rw [if_neg (by omega)]
          · by_cases hmp : m % 2 = 1
            · simp only [Tr.upd, Tr.get, b0, b1, hn, hp, hm, hmp, decide_true, decide_false]; rw [if_neg (by omega)]
            · simp only [Tr.upd, Tr.get, b0, b1, hn, hp, hm, hmp, decide_false, ih _ _ _ h2]
              by_cases e : m = n
              · subst e; simp
              · rw [if_neg (by omega), if_neg e]
        | nd v l r =>
          by_cases hm : m = 0
          · subst hm; simp only [Tr.upd, Tr.get, b0, b1, hn, hp, decide_true, decide_false]; rw [if_neg (by omega)]
          · by_cases hmp : m % 2 = 1
            · simp only [Tr.upd, Tr.get, b0, b1, hn, hp, hm, hmp, decide_true, decide_false]; rw [if_neg (by omega)]
            · simp only [Tr.upd, Tr.get, b0, b1, hn, hp, hm, hmp, decide_false, ih _ _ _ h2]
              by_cases e : m = n
              · subst e; simp
              · rw [if_neg (by omega), if_neg e]
theorem Tr.get_set {α : Type} (t : Tr α) (n m : Nat) (x : Option α) : (t.set n x).get m = if m = n then x else t.get m :=
  Tr.get_upd x _ _ _ _ (by omega)

/-! ### values -/
/-- The byte that a number is. -/
def byteOf (i : I) : UInt8 := UInt8.ofNat i.n.toNat
def BOk (s : List I) : Prop := ∀ i ∈ s, 0 ≤ i.lo ∧ i.lo ≤ i.n ∧ i.n ≤ i.hi ∧ i.hi ≤ 255
theorem byteOf_toNat {i : I} (h : 0 ≤ i.lo ∧ i.lo ≤ i.n ∧ i.n ≤ i.hi ∧ i.hi ≤ 255) : ((byteOf i).toNat : Int) = i.n := by
  unfold byteOf
  rw [UInt8.toNat_ofNat']
  have : i.n.toNat % 2 ^ 8 = i.n.toNat := Nat.mod_eq_of_lt (by omega)
  rw [this]; omega
inductive V where
  | any
  | bool (b : Bool)
  | sbool (b : Bool)
  | int (k : IntKind) (i : I)
  | str (s : List I)
  /-- a string of which the evaluator knows nothing -/
  | ssym (s : List UInt8)
  | nilp
  | ptr (b : Nat) (o : I)
  | nils
  /-- es: cells of an element; o: in cells; len: in elements; of cap only bounds are told -/
  | slice (b : Nat) (es : Nat) (o len : I) (clo chi : Int)
  | nilm
  | map (b : Nat)
  | func (fn : Fn) (first captured : List V)
  | nilf
  | iface (t : TypeId) (v : V)
  | nili
  | agg (cs : List V)
  | tup (vs : List V)
deriving Inhabited

/-- For each block that is known: which one it is in the world, and how many cells it has there. -/
abbrev Ren := Nat → Option (Nat × Nat)
def Ren.le (ρ ρ' : Ren) : Prop := ∀ i x, ρ i = some x → ρ' i = some x
theorem Ren.le.refl (ρ : Ren) : ρ.le ρ := fun _ _ h => h
theorem Ren.le.trans {a b c : Ren} (h : a.le b) (h' : b.le c) : a.le c := fun i x hx => h' i x (h i x hx)
def Ren.ext (ρ : Ren) (i : Nat) (x : Nat × Nat) : Ren := fun j => if j = i then some x else ρ j
theorem Ren.le_ext {ρ : Ren} {i : Nat} {x : Nat × Nat} (h : ρ i = none) : ρ.le (ρ.ext i x) := fun j y hj => by
  unfold Ren.ext; split
  · rename_i e; subst e; rw [h] at hj; cases hj
  · exact hj
theorem Ren.ext_same {ρ : Ren} {i : Nat} {x : Nat × Nat} : (ρ.ext i x) i = some x := by simp [Ren.ext]

mutual
def VR (ρ : Ren) : V → Value → Prop
  | .any, _ => True
  | .bool b, v => v = .bool b
  | .sbool b, v => v = .bool b
  | .int k i, v => ∃ n, v = .int k n ∧ IR i n
  | .str s, v => v = .string ⟨⟨s.map byteOf⟩⟩ ∧ BOk s
  | .ssym s, v => v = .string ⟨⟨s⟩⟩
  | .nilp, v => v = .pointer none
  | .ptr b o, v => ∃ (B tot n : Nat), ρ b = some (B, tot) ∧ v = .pointer (some ⟨B, n, none⟩) ∧ IR o n
  | .nils, v => v = .slice none 0 0
  | .slice b es o l clo chi, v => ∃ (B tot n len cap : Nat), ρ b = some (B, tot) ∧ v = .slice (some ⟨B, n, none⟩) len cap ∧ IR o n ∧ IR l len ∧ clo ≤ cap ∧ cap ≤ chi ∧ len ≤ cap ∧ n + cap * es ≤ tot
  | .nilm, v => v = .map none
  | .map b, v => ∃ B tot, ρ b = some (B, tot) ∧ v = .map (some B)
  | .func fn first cap, v => ∃ f c, v = .func fn ⟨f⟩ ⟨c⟩ ∧ VRs ρ first f ∧ VRs ρ cap c
  | .nilf, v => v = .nilFunc
  | .iface t x, v => ∃ y, v = .iface t y ∧ VR ρ x y
  | .nili, v => v = .nilIface
  | .agg cs, v => ∃ l, v = .agg ⟨l⟩ ∧ VRs ρ cs l
  | .tup cs, v => ∃ l, v = .tuple ⟨l⟩ ∧ VRs ρ cs l
def VRs (ρ : Ren) : List V → List Value → Prop
  | [], l => l = []
  | c :: cs, l => ∃ x xs, l = x :: xs ∧ VR ρ c x ∧ VRs ρ cs xs
end
mutual
theorem VR.mono {ρ ρ' : Ren} (h : ρ.le ρ') : ∀ (a : V) (v : Value), VR ρ a v → VR ρ' a v
  | .any, _, _ => trivial
  | .bool _, _, h' => h'
  | .sbool _, _, h' => h'
  | .int .., _, h' => h'
  | .str _, _, h' => h'
  | .ssym _, _, h' => h'
  | .nilp, _, h' => h'
  | .ptr .., _, ⟨B, tot, n, h1, h2⟩ => ⟨B, tot, n, h _ _ h1, h2⟩
  | .nils, _, h' => h'
  | .slice .., _, ⟨B, tot, n, len, cap, h1, h2⟩ => ⟨B, tot, n, len, cap, h _ _ h1, h2⟩
  | .nilm, _, h' => h'
  | .map _, _, ⟨B, tot, h1, h2⟩ => ⟨B, tot, h _ _ h1, h2⟩
  | .func _ first cap, _, ⟨f, c, h1, h2, h3⟩ => ⟨f, c, h1, VRs.mono h first f h2, VRs.mono h cap c h3⟩
  | .nilf, _, h' => h'
  | .iface _ x, _, ⟨y, h1, h2⟩ => ⟨y, h1, VR.mono h x y h2⟩
  | .nili, _, h' => h'
  | .agg cs, _, ⟨l, h1, h2⟩ => ⟨l, h1, VRs.mono h cs l h2⟩
  | .tup cs, _, ⟨l, h1, h2⟩ => ⟨l, h1, VRs.mono h cs l h2⟩
theorem VRs.mono {ρ ρ' : Ren} (h : ρ.le ρ') : ∀ (a : List V) (l : List Value), VRs ρ a l → VRs ρ' a l
  | [], _, h' => h'
  | c :: cs, _, ⟨x, xs, h1, h2, h3⟩ => ⟨x, xs, h1, VR.mono h c x h2, VRs.mono h cs xs h3⟩
end
theorem VRs.length {ρ : Ren} : ∀ {a : List V} {l : List Value}, VRs ρ a l → l.length = a.length
  | [], _, h => by simp [VRs] at h; simp [h]
  | _ :: cs, _, ⟨_, xs, h1, _, h3⟩ => by subst h1; simp [VRs.length h3]
theorem VRs.get {ρ : Ren} : ∀ {a : List V} {l : List Value} {i : Nat} {c : V}, VRs ρ a l → a[i]? = some c → ∃ x, l[i]? = some x ∧ VR ρ c x
  | [], _, _, _, _, h => by simp at h
  | c :: cs, _, 0, _, ⟨x, xs, h1, h2, _⟩, h => by simp at h; subst h; exact ⟨x, by simp [h1], h2⟩
  | _ :: cs, _, i + 1, _, ⟨x, xs, h1, _, h3⟩, h => by
    simp at h
    obtain ⟨y, hy, hr⟩ := VRs.get h3 h
    exact ⟨y, by simp [h1, hy], hr⟩
theorem VRs.set {ρ : Ren} : ∀ {a : List V} {l : List Value} (i : Nat) {c : V} {x : Value}, VRs ρ a l → VR ρ c x → VRs ρ (a.set i c) (l.set i x)
  | [], _, _, _, _, h, _ => by simp [VRs] at h; simp [h, VRs]
  | _ :: cs, _, 0, _, _, ⟨_, xs, h1, _, h3⟩, h => by subst h1; exact ⟨_, xs, rfl, h, h3⟩
  | _ :: cs, _, i + 1, _, _, ⟨y, xs, h1, h2, h3⟩, h => by subst h1; exact ⟨y, _, rfl, h2, VRs.set i h3 h⟩
theorem VRs.append {ρ : Ren} : ∀ {a b : List V} {l m : List Value}, VRs ρ a l → VRs ρ b m → VRs ρ (a ++ b) (l ++ m)
  | [], _, _, _, h, h' => by simp [VRs] at h; simpa [h] using h'
  | _ :: cs, _, _, _, ⟨y, xs, h1, h2, h3⟩, h' => by subst h1; exact ⟨y, _, rfl, h2, VRs.append h3 h'⟩
theorem VRs.drop {ρ : Ren} : ∀ (n : Nat) {a : List V} {l : List Value}, VRs ρ a l → VRs ρ (a.drop n) (l.drop n)
  | 0, _, _, h => by simpa using h
  | n + 1, [], _, h => by simp [VRs] at h; simp [h, VRs]
  | n + 1, _ :: cs, _, ⟨y, xs, h1, _, h3⟩ => by subst h1; simpa using VRs.drop n h3
theorem VRs.take {ρ : Ren} : ∀ (n : Nat) {a : List V} {l : List Value}, VRs ρ a l → VRs ρ (a.take n) (l.take n)
  | 0, _, _, _ => by simp [VRs]
  | n + 1, [], _, h => by simp [VRs] at h; simp [h, VRs]
  | n + 1, _ :: cs, _, ⟨y, xs, h1, h2, h3⟩ => by subst h1; exact ⟨y, _, rfl, h2, VRs.take n h3⟩
theorem VRs.replicate {ρ : Ren} {c : V} {x : Value} (h : VR ρ c x) : ∀ n : Nat, VRs ρ (List.replicate n c) (List.replicate n x)
  | 0 => rfl
  | n + 1 => ⟨x, _, rfl, h, VRs.replicate h n⟩

/-- A value that lies in one cell. -/
def V.one : V → Bool
  | .agg _ | .tup _ | .any => false
  | _ => true
theorem V.one_sound {ρ : Ren} {c : V} {x : Value} (h : VR ρ c x) (h1 : c.one = true) : x.oneCell' = true := by
  cases c <;> simp only [VR, V.one] at h h1 <;> first | (cases h1; done) | (subst h; rfl) | (obtain ⟨rfl, _⟩ := h; rfl) | skip
  · obtain ⟨n, rfl, _⟩ := h; rfl
  · obtain ⟨B, tot, n, _, rfl, _⟩ := h; rfl
  · obtain ⟨B, tot, n, len, cap, _, rfl, _⟩ := h; rfl
  · obtain ⟨B, tot, _, rfl⟩ := h; rfl
  · obtain ⟨f, c, rfl, _⟩ := h; rfl
  · obtain ⟨y, rfl, _⟩ := h; rfl
def V.cells : V → List V
  | .agg cs => cs
  | v => [v]
theorem V.cells_sound {ρ : Ren} {c : V} {x : Value} (h : VR ρ c x) (h1 : c.one = true ∨ ∃ cs, c = .agg cs) : VRs ρ c.cells x.cells.toList := by
  rcases h1 with h1 | ⟨cs, rfl⟩
  · have h2 := V.one_sound h h1
    have e : c.cells = [c] := by cases c <;> simp_all [V.cells, V.one]
    have e2 : x.cells = #[x] := by cases x <;> simp_all [Value.cells, Value.oneCell']
    rw [e, e2]
    exact ⟨x, [], rfl, h, rfl⟩
  · obtain ⟨l, rfl, h2⟩ := h
    exact h2

/-! ### blocks -/
inductive Blk where
  | cells (cs : List V)
  /-- at least these -/
  | vec (cs : List V)
  /-- n numbers of a kind -/
  | fn (k : IntKind) (n : Nat) (f : Nat → Int) (lo hi : Int)
  /-- at least these numbers -/
  | ints (k : IntKind) (xs : List Int) (lo hi : Int)
  /-- at least these strings -/
  | strs (xs : List (List UInt8))
  | map (es : List (V × V × Nat)) (clock : Nat)
  | siter (s : List I) (pos : Nat)
deriving Inhabited
def unfrozen (fz : Nat × Nat) (n : Nat) : Prop := ∀ i, i < n → (decide (fz.1 ≤ i) && decide (i < fz.2)) = false
def ER (ρ : Ren) : List (V × V × Nat) → List MapEntry → Prop
  | [], l => l = []
  | (k, v, b) :: es, l => ∃ e r, l = e :: r ∧ VR ρ k e.key ∧ VR ρ v e.val ∧ e.born = b ∧ ER ρ es r
theorem ER.mono {ρ ρ' : Ren} (h : ρ.le ρ') : ∀ (es : List (V × V × Nat)) (l : List MapEntry), ER ρ es l → ER ρ' es l
  | [], _, h' => h'
  | (_, _, _) :: es, _, ⟨e, r, h1, h2, h3, h4, h5⟩ => ⟨e, r, h1, VR.mono h _ _ h2, VR.mono h _ _ h3, h4, ER.mono h es r h5⟩
def BR (ρ : Ren) (tot : Nat) : Blk → Obj → Prop
  | .cells cs, o => ∃ l t fz, o = .cells ⟨l⟩ t fz ∧ VRs ρ cs l ∧ l.length = tot ∧ unfrozen fz tot
  | .vec cs, o => ∃ l l' t fz, o = .cells ⟨l ++ l'⟩ t fz ∧ VRs ρ cs l ∧ (l ++ l').length = tot ∧ unfrozen fz tot
  | .fn k n f lo hi, o => ∃ l t fz, o = .cells ⟨l⟩ t fz ∧ l.length = tot ∧ n = tot ∧ (∀ i, i < n → l[i]? = some (.int k (f i)) ∧ lo ≤ f i ∧ f i ≤ hi) ∧ unfrozen fz tot
  | .ints k xs lo hi, o => ∃ l t fz, o = .cells ⟨l⟩ t fz ∧ l.length = tot ∧ xs.length ≤ tot ∧ (∀ i, (h : i < xs.length) → l[i]? = some (.int k xs[i]) ∧ lo ≤ xs[i] ∧ xs[i] ≤ hi) ∧ unfrozen fz tot
  | .strs xs, o => ∃ l t fz, o = .cells ⟨l⟩ t fz ∧ l.length = tot ∧ (∀ i, (h : i < xs.length) → l[i]? = some (.string ⟨⟨xs[i]⟩⟩)) ∧ unfrozen fz tot
  | .map es clock, o => ∃ l, o = .map ⟨l⟩ clock ∧ ER ρ es l
  | .siter s pos, o => o = .stringIter ⟨⟨s.map byteOf⟩⟩ pos ∧ BOk s
theorem BR.mono {ρ ρ' : Ren} (h : ρ.le ρ') {tot : Nat} : ∀ (b : Blk) (o : Obj), BR ρ tot b o → BR ρ' tot b o
  | .cells cs, _, ⟨l, t, fz, h1, h2, h3⟩ => ⟨l, t, fz, h1, VRs.mono h cs l h2, h3⟩
  | .vec cs, _, ⟨l, l', t, fz, h1, h2, h3⟩ => ⟨l, l', t, fz, h1, VRs.mono h cs l h2, h3⟩
  | .fn .., _, h' => h'
  | .ints .., _, h' => h'
  | .strs _, _, h' => h'
  | .map es _, _, ⟨l, h1, h2⟩ => ⟨l, h1, ER.mono h es l h2⟩
  | .siter .., _, h' => h'

structure Hp where
  m : Tr Blk
  nxt : Nat
  lim : Nat
abbrev RO := Nat → Option Blk
def Hp.at (ro : RO) (hp : Hp) (id : Nat) : Option Blk := match hp.m.get id with
  | some b => some b
  | none => ro id
def Hp.put (hp : Hp) (id : Nat) (b : Option Blk) : Hp := { hp with m := hp.m.set id b }
def Hp.new (hp : Hp) (b : Blk) : Hp := { m := hp.m.set hp.nxt (some b), nxt := hp.nxt + 1, lim := hp.lim }

/-- Where a run begins: its world, the numbers that are given to blocks there, and from which number on new ones are given. -/
structure Base where
  w : World
  ren : Ren
  nxt : Nat
abbrev Base.heap (b : Base) : Array Obj := b.w.heap
abbrev Base.tape (b : Base) := b.w.tape
abbrev Base.os (b : Base) := b.w.os
abbrev Base.output (b : Base) := b.w.output
/-- The world w: the blocks of the heap lie in it as ρ says; of what was there in w0, all but the blocks F is as it was. -/
structure Rel (w0 : Base) (F : Nat → Prop) (G : Nat) (ro : RO) (ρ : Ren) (hp : Hp) (w : World) : Prop where
  blk : ∀ id b, hp.at ro id = some b → ∃ B tot o, ρ id = some (B, tot) ∧ w.heap[B]? = some o ∧ BR ρ tot b o ∧ (hp.m.get id = none ∨ F B ∨ w0.heap.size ≤ B)
  inj : ∀ id id' b b' B tot tot', hp.at ro id = some b → hp.at ro id' = some b' → ρ id = some (B, tot) → ρ id' = some (B, tot') → id = id'
  sep : ∀ id b, hp.m.get id = some b → ro id = none
  fresh : ∀ id, hp.nxt ≤ id → id < hp.lim → ρ id = none
  frame : ∀ B, B < w0.heap.size → ¬ F B → w.heap[B]? = w0.heap[B]?
  size : w0.heap.size ≤ w.heap.size
  tape : w.tape = w0.tape
  os : w.os = w0.os
  output : w.output = w0.output
  glob : ∀ g, g < G → ∃ tot, ρ g = some (g, tot)
  ren : ∀ id x, ρ id = some x → w0.ren id = some x ∨ (w0.nxt ≤ id ∧ id < hp.nxt)
  le0 : w0.nxt ≤ hp.nxt

def World.putB (w : World) (B : Nat) (o : Obj) : World := { w with heap := w.heap.setIfInBounds B o }
theorem setCell_eq {w : World} {B n : Nat} {c : Array Value} {t : TypeId} {fz : Nat × Nat} {v : Value} (h : w.heap[B]? = some (.cells c t fz)) :
    w.setCell ⟨B, n, none⟩ v = World.putB w B (.cells (c.setIfInBounds n v) t fz) := by
  unfold World.setCell World.putB
  congr 1
  apply Array.ext_getElem?
  intro i
  rw [Array.getElem?_modify, Array.getElem?_setIfInBounds]
  by_cases e : B = i
  · subst e
    have hB : B < w.heap.size := by
      rcases Nat.lt_or_ge B w.heap.size with h' | h'
      · exact h'
      · simp [Array.getElem?_eq_none h'] at h
    have h' : w.heap[B] = .cells c t fz := by
      rw [Array.getElem?_eq_getElem hB] at h; exact Option.some.inj h
    simp [hB, h']
  · simp [e]
theorem heap_putB {w : World} {B : Nat} {o : Obj} (hB : B < w.heap.size) (i : Nat) : (World.putB w B o).heap[i]? = if i = B then some o else w.heap[i]? := by
  unfold World.putB
  rw [Array.getElem?_setIfInBounds]
  by_cases e : B = i
  · subst e; simp [hB]
  · rw [if_neg e, if_neg (fun h => e h.symm)]
theorem putB_putB {w : World} {B : Nat} {o o' : Obj} : World.putB (World.putB w B o) B o' = World.putB w B o' := by
  simp [World.putB, Array.setIfInBounds_setIfInBounds]

section
variable {w0 : Base} {F : Nat → Prop} {G : Nat} {ro : RO} {ρ : Ren} {hp : Hp} {w : World}
theorem lt_of_heap {w : World} {B : Nat} {o : Obj} (h : w.heap[B]? = some o) : B < w.heap.size := by
  rcases Nat.lt_or_ge B w.heap.size with h' | h'
  · exact h'
  · simp [Array.getElem?_eq_none h'] at h
/-- A block of the heap's own is written. -/
theorem Rel.put (h : Rel w0 F G ro ρ hp w) {id : Nat} {b b' : Blk} {B tot : Nat} {o' : Obj} (h1 : hp.m.get id = some b) (h2 : ρ id = some (B, tot)) (h3 : BR ρ tot b' o') :
    Rel w0 F G ro ρ (hp.put id (some b')) (World.putB w B o') := by
  have hat : hp.at ro id = some b := by simp [Hp.at, h1]
  obtain ⟨B', tot', o, e1, e2, _, e4⟩ := h.blk id b hat
  rw [h2] at e1
  obtain ⟨rfl, rfl⟩ := Prod.mk.inj (Option.some.inj e1)
  have e5 : F B ∨ w0.heap.size ≤ B := e4.resolve_left (by rw [h1]; simp)
  clear e4
  have hB := lt_of_heap e2
  have at' : ∀ j, (hp.put id (some b')).at ro j = if j = id then some b' else hp.at ro j := fun j => by
    simp only [Hp.at, Hp.put, Tr.get_set]
    by_cases e : j = id
    · rw [if_pos e, if_pos e]
    · rw [if_neg e, if_neg e]
  have key : ∀ j c, (hp.put id (some b')).at ro j = some c → ∃ c', hp.at ro j = some c' := fun j c hj => by
    rw [at'] at hj; split at hj
    · rename_i e; subst e; exact ⟨b, hat⟩
    · exact ⟨c, hj⟩
  refine ⟨fun j c hj => ?_, fun i j c c' B1 t1 t2 hi hj r1 r2 => ?_, fun j c hj => ?_, h.fresh, fun B1 hb hf => ?_, ?_, h.tape, h.os, h.output, h.glob, h.ren, h.le0⟩
  · rw [at'] at hj
    split at hj
    · rename_i e; subst e
      simp only [Option.some.injEq] at hj; subst hj
      exact ⟨B, tot, o', h2, by rw [heap_putB hB, if_pos rfl], h3, .inr e5⟩
    · rename_i e
      obtain ⟨B1, t1, o1, r1, r2, r3, r4⟩ := h.blk j c hj
      refine ⟨B1, t1, o1, r1, ?_, r3, by simp only [Hp.put, Tr.get_set, if_neg e]; exact r4⟩
      rw [heap_putB hB, if_neg ?_, r2]
      intro hbb; subst hbb
      exact e (h.inj _ _ _ _ _ _ _ hj hat r1 h2)
  · obtain ⟨c1, hc1⟩ := key i c hi
    obtain ⟨c2, hc2⟩ := key j c' hj
    exact h.inj _ _ _ _ _ _ _ hc1 hc2 r1 r2
  · simp only [Hp.put, Tr.get_set] at hj
    split at hj
    · rename_i e; subst e; exact h.sep _ _ h1
    · exact h.sep _ _ hj
  · rw [heap_putB hB, if_neg ?_]
    · exact h.frame B1 hb hf
    · intro e; subst e
      rcases e5 with e4 | e4
      · exact hf e4
      · omega
  · show w0.heap.size ≤ (World.putB w B o').heap.size
    simp [World.putB, h.size]
/-- A new block. -/
theorem Rel.new (h : Rel w0 F G ro ρ hp w) (hl : hp.nxt < hp.lim) {b : Blk} {tot : Nat} {o : Obj} (hb : BR (ρ.ext hp.nxt (w.heap.size, tot)) tot b o) :
    Rel w0 F G ro (ρ.ext hp.nxt (w.heap.size, tot)) (hp.new b) { w with heap := w.heap.push o } := by
  have hn := h.fresh hp.nxt (Nat.le_refl _) hl
  have hle : ρ.le (ρ.ext hp.nxt (w.heap.size, tot)) := Ren.le_ext hn
  have none_at : hp.at ro hp.nxt = none := by
    cases e : hp.at ro hp.nxt with
    | none => rfl
    | some b => obtain ⟨_, _, _, e1, _⟩ := h.blk _ _ e; rw [hn] at e1; cases e1
  have ro_none : ro hp.nxt = none := by
    unfold Hp.at at none_at
    split at none_at
    · cases none_at
    · exact none_at
  have at' : ∀ j, (hp.new b).at ro j = if j = hp.nxt then some b else hp.at ro j := fun j => by
    simp only [Hp.at, Hp.new, Tr.get_set]
    by_cases e : j = hp.nxt
    · rw [if_pos e, if_pos e]
    · rw [if_neg e, if_neg e]
  have heap' : ∀ i o', w.heap[i]? = some o' → (w.heap.push o)[i]? = some o' := fun i o' hi => by
    rw [Array.getElem?_push_lt (lt_of_heap hi), ← Array.getElem?_eq_getElem, hi]
  refine ⟨fun j c hj => ?_, fun i j c c' B1 t1 t2 hi hj r1 r2 => ?_, fun j c hj => ?_, fun j hj hj2 => ?_, fun B hB hF => ?_, ?_, h.tape, h.os, h.output, fun g hg => ?_, fun id x hx => ?_, ?_⟩
  · rw [at'] at hj
    split at hj
    · rename_i e; subst e
      simp only [Option.some.injEq] at hj; subst hj
      exact ⟨w.heap.size, tot, o, Ren.ext_same, by simp, hb, .inr (.inr h.size)⟩
    · rename_i hne
      obtain ⟨B, t, o', e1, e2, e3, e4⟩ := h.blk j c hj
      exact ⟨B, t, o', hle _ _ e1, heap' _ _ e2, BR.mono hle _ _ e3, by simp only [Hp.new, Tr.get_set, if_neg hne]; exact e4⟩
  · rw [at'] at hi hj
    have old : ∀ k c, hp.at ro k = some c → ∀ t, ρ.ext hp.nxt (w.heap.size, tot) k = some (B1, t) → k ≠ hp.nxt → B1 < w.heap.size ∧ ρ k = some (B1, t) := fun k c hk t hkt hne => by
      simp only [Ren.ext, if_neg hne] at hkt
      obtain ⟨B, t', o', e1, e2, _, _⟩ := h.blk k c hk
      rw [hkt] at e1
      obtain ⟨rfl, rfl⟩ := Prod.mk.inj (Option.some.inj e1)
      exact ⟨lt_of_heap e2, hkt⟩
    split at hi <;> split at hj
    · omega
    · rename_i e1 e2
      subst e1
      rw [Ren.ext_same] at r1
      obtain ⟨rfl, rfl⟩ := Prod.mk.inj (Option.some.inj r1)
      have := (old j c' hj t2 r2 e2).1
      omega
    · rename_i e1 e2
      subst e2
      rw [Ren.ext_same] at r2
      obtain ⟨rfl, rfl⟩ := Prod.mk.inj (Option.some.inj r2)
      have := (old i c hi t1 r1 e1).1
      omega
    · rename_i e1 e2
      exact h.inj _ _ _ _ _ _ _ hi hj (old i c hi t1 r1 e1).2 (old j c' hj t2 r2 e2).2
  · simp only [Hp.new, Tr.get_set] at hj
    split at hj
    · rename_i e; subst e; exact ro_none
    · exact h.sep _ _ hj
  · simp only [Hp.new] at hj
    simp only [Ren.ext, if_neg (show ¬ j = hp.nxt by omega)]
    exact h.fresh j (by omega) hj2
  · have hlt : B < w.heap.size := Nat.lt_of_lt_of_le hB h.size
    show (w.heap.push o)[B]? = _
    rw [Array.getElem?_push_lt hlt, ← Array.getElem?_eq_getElem]
    exact h.frame B hB hF
  · show w0.heap.size ≤ (w.heap.push o).size
    simp; have := h.size; omega
  · obtain ⟨t, ht⟩ := h.glob g hg
    exact ⟨t, hle _ _ ht⟩
  · have hn0 := h.le0
    unfold Ren.ext at hx
    split at hx
    · rename_i e; subst e; exact .inr ⟨hn0, by simp [Hp.new]⟩
    · rcases h.ren id x hx with h1 | h1
      · exact .inl h1
      · exact .inr ⟨h1.1, by simp only [Hp.new]; omega⟩
  · have hn0 := h.le0
    simp only [Hp.new]; omega
/-- A block is forgotten. -/
theorem Rel.drop (h : Rel w0 F G ro ρ hp w) {id : Nat} {b : Blk} (hid : hp.m.get id = some b) : Rel w0 F G ro ρ (hp.put id none) w := by
  have hro := h.sep id b hid
  have at' : ∀ j c, (hp.put id none).at ro j = some c → hp.at ro j = some c := fun j c hj => by
    simp only [Hp.at, Hp.put, Tr.get_set] at hj ⊢
    by_cases e : j = id
    · rw [if_pos e] at hj
      subst e
      rw [hro] at hj; cases hj
    · rwa [if_neg e] at hj
  exact ⟨fun j c hj => by
      obtain ⟨B, t, o, e1, e2, e3, e4⟩ := h.blk j c (at' j c hj)
      refine ⟨B, t, o, e1, e2, e3, ?_⟩
      simp only [Hp.put, Tr.get_set]
      split
      · exact .inl rfl
      · exact e4, fun i j c c' B t t' hi hj => h.inj i j c c' B t t' (at' i c hi) (at' j c' hj),
    fun j c hj => by
      simp only [Hp.put, Tr.get_set] at hj
      split at hj
      · cases hj
      · exact h.sep j c hj,
    h.fresh, h.frame, h.size, h.tape, h.os, h.output, h.glob, h.ren, h.le0⟩
theorem Rel.draw (h : Rel w0 F G ro ρ hp w) (n : Nat) : Rel w0 F G ro ρ hp { w with drawn := n } :=
  ⟨h.blk, h.inj, h.sep, h.fresh, h.frame, h.size, h.tape, h.os, h.output, h.glob, h.ren, h.le0⟩
end
end Go.Ev
