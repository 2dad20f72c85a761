/- Own text: lines that end with digits. -/
import Derived.Test.YtlmacdfbdhpljaaGreatDoorBd
namespace Go.Proofs.YtlmacdfbdhpljaaGreatDoor
open Go.Ev Go.Ev.Tr Go.Proofs
set_option maxRecDepth 1000000
noncomputable def smD (f : Nat) : Option Summ := match Nat.beq f 160 with
  | true => some b16D
  | false => match Nat.beq f 164 with
    | true => some resF.sum
    | false => sm1 f
theorem smD_ok : ∀ f s, smD f = some s → SumAt f s := sm_cons (sm_cons sm1_ok res_at) b16D_at
def digC (c : Int) : I := ⟨c, 48, 57⟩
def orgPre : List Int := [111, 114, 103, 32]
def jrPre : List Int := [106, 114, 32]
def dgStep (v c : Int) : Int := if 1099511627776 < v * 10 + (c - 48) then 1099511627776 else v * 10 + (c - 48)
def digVal (cs : List Int) : Int := cs.foldl dgStep 0
def isDig (c : Int) : Bool := decide (48 ≤ c) && decide (c ≤ 57)
def okDig (cs : List Int) : Bool := cs.all isDig && (Nat.ble 1 cs.length && Nat.ble cs.length 5)
def orgR (n : Int) : V := .tup [.agg [litS [111, 114, 103], litS [], .bool false, .deep (.sl 1 [.ptr [.str [110, 117, 109, 98, 101, 114], .int .i64 4, .int .i64 n, .str [], .nils] 0]), .nils], litS [], .bool true]
def jrR (n : Int) : V := .tup [.agg [litS [99, 111, 100, 101], litS [], .bool false, .nils, .deep (.sl 3 [.sl 1 [.int .u8 24], .nilp, .int .u8 0, .nils, .ptr [.str [110, 117, 109, 98, 101, 114], .int .i64 3, .int .i64 n, .str [], .nils] 0, .int .u8 101])], litS [], .bool true]
/-- The digits behind a beginning. -/
def digsOf : List Int → List I → Option (List Int)
  | [], l => match l.all fun i => ile 48 i.lo && ile i.hi 57 with
    | true => some (l.map (·.n))
    | false => none
  | c :: r, l => match l with
    | i :: l => match ieq i.lo c && ieq i.hi c with
      | true => digsOf r l
      | false => none
    | [] => none
def digArgs (pre : List Int) : List V → Option (List Int)
  | [.str l, .str []] => digsOf pre l
  | _ => none
def digEnc (pre cs : List Int) : List V := [.str (pre.map I.lit ++ cs.map digC), .str []]
def preOk (pre : List Int) : Bool := pre.all fun c => decide (0 ≤ c) && decide (c ≤ 255)
theorem digsOf_sound : ∀ {pre : List Int} {l : List I} {cs : List Int}, digsOf pre l = some cs → BOk l → (preOk pre = true) → okDig cs = true → l.map Go.Ev.byteOf = (pre.map I.lit ++ cs.map digC).map Go.Ev.byteOf ∧ BOk (pre.map I.lit ++ cs.map digC)
  | [], l, cs, h, hb, _, hok => by
    unfold digsOf at h
    split at h <;> try contradiction
    injection h with h; subst h
    simp only [okDig, Bool.and_eq_true] at hok
    refine ⟨?_, fun i hi => ?_⟩
    · simp only [List.map_nil, List.nil_append, List.map_map]
      rfl
    · simp only [List.map_nil, List.nil_append, List.map_map, List.mem_map] at hi
      obtain ⟨j, hj, rfl⟩ := hi
      have := List.all_eq_true.1 hok.1 j.n (List.mem_map.2 ⟨j, hj, rfl⟩)
      simp only [isDig, Bool.and_eq_true, decide_eq_true_eq] at this
      simp only [Function.comp, digC]
      omega
  | c :: r, l, cs, h, hb, hp, hok => by
    unfold digsOf at h
    split at h <;> try contradiction
    rename_i i l'
    split at h <;> try contradiction
    rename_i hc
    simp only [Bool.and_eq_true, ieq_iff] at hc
    simp only [preOk, List.all_cons, Bool.and_eq_true, decide_eq_true_eq] at hp
    obtain ⟨g1, g2⟩ := digsOf_sound h (fun j hj => hb j (List.mem_cons_of_mem _ hj)) hp.2 hok
    have hi := hb i (by simp)
    have en : i.n = c := by omega
    refine ⟨?_, fun j hj => ?_⟩
    · simp only [List.map_cons, List.cons_append]
      rw [g1]
      congr 1
      unfold Go.Ev.byteOf
      rw [en]; rfl
    · simp only [List.map_cons, List.cons_append, List.mem_cons] at hj
      rcases hj with rfl | hj
      · have := hp.1
        simp only [I.lit]
        omega
      · exact g2 j hj
theorem flatS (l : List I) : flats [V.str l, .str []] = true := rfl
def digFn0 (pre : List Int) : SFn0 Unit (List Int) FlatV where
  f := 133
  k := 0
  decB cs := match cs with
    | [] => some ()
    | _ :: _ => none
  encB _ := []
  inB _ := true
  okA := okDig
  okR _ := true
  dec := digArgs pre
  encA := digEnc pre
  decV v := match h : V.flat (plainV v) with
    | true => some ⟨plainV v, h⟩
    | false => none
  enc v := v.1
  dflt := (false, ⟨.nilp, rfl⟩, ())
def digFn (pre : List Int) (res : Int → FlatV) : SFn Unit (List Int) FlatV := ⟨digFn0 pre, fun _ _ => true, fun _ cs => (false, res (digVal cs), ())⟩
theorem digFn_ok {pre : List Int} {res : Int → FlatV} (hp : preOk pre = true) {ev : Unit → List Int → T (AEnd × Hp)} (at_ : ∀ x a, EvAt 133 (digEnc pre a) (hpL 6 1000000 []) (ev x a))
    (run : ∀ cs, okDig cs = true → (digFn0 pre).evM ev () cs = some (false, res (digVal cs), ())) : (digFn pre res).OK ev where
  at_ := at_
  len _ := rfl
  decS xs a h hok ρ l hl := by
    have h : digArgs pre xs = some a := h
    unfold digArgs at h
    split at h <;> try contradiction
    obtain ⟨x, ys, rfl, ⟨rfl, hb⟩, h2⟩ := hl
    obtain ⟨g1, g2⟩ := digsOf_sound h hb hp hok
    exact ⟨_, _, rfl, ⟨by rw [g1], g2⟩, h2⟩
  flatA _ := rfl
  flatE a := a.2
  decVS v a h _ ρ x hx := by
    have h : (digFn0 pre).decV v = some a := h
    simp only [digFn0] at h
    split at h <;> try contradiction
    injection h with h; subst h
    exact plainV_sound hx
  decBS cs x h _ := by
    cases cs with
    | nil => exact ⟨rfl, fun i c d hc => by simp at hc⟩
    | cons => cases h
  run x a _ hok _ := run a hok
def orgF (n : Int) : FlatV := ⟨orgR n, rfl⟩
def jrF (n : Int) : FlatV := ⟨jrR n, rfl⟩
noncomputable def digEv (pre : List Int) (_ : Unit) (cs : List Int) : T (AEnd × Hp) := callA smD noRO 133 (digEnc pre cs) (hpL 6 1000000 [])
end Go.Proofs.YtlmacdfbdhpljaaGreatDoor
