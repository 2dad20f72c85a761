/- Own text: CpuHidden: plain instructions, the simulation. -/
import Derived.Test.YtmlfmkebljdoiaaGreatDoorCp
import Derived.Test.YtmlfmkebljdoiaaGreatDoorGd
namespace Go.Proofs.YtmlfmkebljdoiaaGreatDoor
open Go.Ev Go.Ev.Tr Go.Proofs
set_option maxRecDepth 1000000
def plL : List Int := [4, 5, 12, 13, 20, 21, 28, 29, 60, 61, 7, 15, 23, 31, 39, 47, 55, 63, 3, 19, 35, 11, 27, 43, 9, 25, 41, 120, 71, 74, 83, 96]
def pkN {β : Type} (v : Int) (f : Nat → Option β) : Nat → Nat → Option β
  | _, 0 => none
  | k, j + 1 => bif v == ((k : Nat) : Int) then f k else pkN v f (k + 1) j
def pl32 (n : Int) : Option Int := pkN (pickV (IntKind.i64.wrap (n.tdiv 128)) (32 : Nat)) (fun k => some (plL.getD k 0)) 0 32
def plainT (n : Int) : Option Int := bif decide (pickV n (128 : Nat) < 64) then (bif !(pickV n (128 : Nat) % 8 == 6) then some (128 + pickV n (128 : Nat)) else pl32 n) else pl32 n
def viewU8 (r : AEnd × Hp) : Option Int := match r.1 with
  | .ret (.int .u8 i) => some i.n
  | _ => none
noncomputable def plRun (n : Int) : T (AEnd × Hp) := call7 noRO 28 [kb .i64 n] (startHp 2 1000000)
theorem plain_ev : (fun n => ((plRun n).bind fun r => T.ofOpt (viewU8 r)).run) = plainT := by kernel_rfl
/-- Which opcode plain gives. -/
def plainM (n : Int) : Int := (plainT n).getD 0
theorem pkN_eq {β : Type} {f : Nat → Option β} : ∀ {j k : Nat} {v : Nat}, k ≤ v → v < k + j → pkN (v : Int) f k j = f v
  | 0, k, v, h1, h2 => by omega
  | j + 1, k, v, h1, h2 => by
    unfold pkN
    by_cases e : v = k
    · subst e; simp
    · have : ((v : Int) == ((k : Nat) : Int)) = false := by simp; omega
      rw [this]
      exact pkN_eq (by omega) (by omega)
theorem plainT_some (n : Int) : (∃ k : Nat, k < 64 ∧ k % 8 ≠ 6 ∧ plainT n = some (128 + (k : Int))) ∨ ∃ k : Nat, k < 32 ∧ plainT n = some (plL.getD k 0) := by
  have h1 := pickV_in (c := n) (n := ((128 : Nat) : Int)) (by decide)
  have h2 := pickV_in (c := IntKind.i64.wrap (n.tdiv 128)) (n := ((32 : Nat) : Int)) (by decide)
  have h3 : pl32 n = some (plL.getD (pickV (IntKind.i64.wrap (n.tdiv 128)) (32 : Nat)).toNat 0) := by
    unfold pl32
    obtain ⟨v, hv⟩ : ∃ v : Nat, pickV (IntKind.i64.wrap (n.tdiv 128)) ((32 : Nat) : Int) = v := ⟨(pickV (IntKind.i64.wrap (n.tdiv 128)) ((32 : Nat) : Int)).toNat, by omega⟩
    rw [hv, pkN_eq (Nat.zero_le _) (by omega)]
    simp
  unfold plainT
  cases hd : decide (pickV n ((128 : Nat) : Int) < 64) with
  | false => exact .inr ⟨_, by omega, h3⟩
  | true =>
    have hd := of_decide_eq_true hd
    cases h6 : !(pickV n ((128 : Nat) : Int) % 8 == 6) with
    | false => exact .inr ⟨_, by omega, h3⟩
    | true =>
      have h6 : ¬ pickV n ((128 : Nat) : Int) % 8 = 6 := by simpa using h6
      refine .inl ⟨(pickV n ((128 : Nat) : Int)).toNat, by omega, by omega, ?_⟩
      simp only [cond_true]
      congr 1; omega
theorem plL_in : ∀ k, k < 32 → 0 ≤ plL.getD k 0 ∧ plL.getD k 0 ≤ 255 := by decide +kernel
theorem plainM_in (n : Int) : plainT n = some (plainM n) ∧ 0 ≤ plainM n ∧ plainM n ≤ 255 := by
  unfold plainM
  rcases plainT_some n with ⟨k, h1, _, h2⟩ | ⟨k, h1, h2⟩
  · rw [h2]; refine ⟨rfl, ?_, ?_⟩ <;> (show _ ≤ _) <;> simp only [Option.getD_some] <;> omega
  · rw [h2]; exact ⟨rfl, plL_in k h1⟩
def plainSum : Summ := fun _ hp args => match args with
  | [.int k c] => match decide (k = .i64) && ile (kmin .i64) c.lo && ile c.hi (kmax .i64) with
    | true => .ret (.ret (.int .u8 ⟨plainM c.n, 0, 255⟩), hp)
    | false => .fail
  | _ => .fail
theorem plainSum_at : SumAt 28 plainSum := by
  intro ro hp args r hrun w0 F ρ w l hr hl
  unfold plainSum at hrun
  split at hrun <;> try (cases hrun; done)
  rename_i k c
  split at hrun <;> try (cases hrun; done)
  rename_i hc
  simp only [Bool.and_eq_true, decide_eq_true_eq, ile_iff] at hc
  obtain ⟨⟨rfl, c1⟩, c2⟩ := hc
  injection hrun with hrun; subst hrun
  obtain ⟨x, xs, rfl, ⟨cv, rfl, hcv⟩, hnil⟩ := hl
  simp only [VRs] at hnil; subst hnil
  have e1 := hcv.1
  have e2 := hcv.2
  have hev : ((plRun cv).bind fun r => T.ofOpt (viewU8 r)).run = some (plainM cv) := (congrFun plain_ev cv).trans (plainM_in cv).1
  obtain ⟨⟨e, hp'⟩, h1, h2⟩ := T.run_bind_some hev
  rw [T.run_ofOpt] at h2
  unfold viewU8 at h2
  split at h2 <;> try contradiction
  rename_i i he
  simp only at he; subst he
  injection h2 with h2
  have hvs : VRs ρ [kb .i64 cv] [.int .i64 cv] := ⟨_, _, rfl, ⟨cv, rfl, rfl, by show kmin .i64 ≤ cv; omega, by show cv ≤ kmax .i64; omega⟩, rfl⟩
  obtain ⟨g1, g2⟩ := pureCall call7OK (f := 28) (L := 1000000) h1 rfl rfl hr hvs
  refine ⟨g1, g2.mono fun e w' ⟨ρ', k1, k2, x, hx, hv⟩ => ⟨ρ', k1, k2, x, hx, ?_⟩⟩
  obtain ⟨m, rfl, hm⟩ := hv
  have hm1 := hm.1
  have hb := (plainM_in cv).2
  refine ⟨m, rfl, ?_, ?_, ?_⟩
  · show m = plainM c.n
    rw [← e1]; omega
  · show (0 : Int) ≤ m; omega
  · show m ≤ (255 : Int); omega
noncomputable def smH (f : Nat) : Option Summ := match Nat.beq f 28 with
  | true => some plainSum
  | false => sm7 f
theorem smH_ok : ∀ f s, smH f = some s → SumAt f s := by
  intro f s h
  unfold smH at h
  split at h
  · rename_i e
    have e := Nat.eq_of_beq_eq_true e
    subst e
    injection h with h; subst h; exact plainSum_at
  · exact sm7_ok f s h
noncomputable def envH : Env := { env0 with sm := smH, cls := clss }
theorem envHOK : EnvOK Tryz.prog envH := envOK_of tysOK fnsOK mixedOK
noncomputable def callH : CallF := evF envH 10000 1000
theorem callHOK : CallOK Tryz.prog 2 callH := evF_ok envHOK smH_ok 10000 1000
end Go.Proofs.YtmlfmkebljdoiaaGreatDoor

namespace Go.Proofs.YtmlfmkebljdoiaaGreatDoor
open Go.Ev Go.Ev.Tr Go.Proofs
set_option maxRecDepth 1000000
noncomputable def ex1 (op : Int) (g : Rg) : Rg := (tickM (ofR g) op 0).1.regs
noncomputable def md2 (op : Int) (g : Rg) : Cpu := (tickM (ofR g) op 0).1
noncomputable def ex2 (op : Int) (g : Rg) : Rg := (tickM (md2 op g) 0 0).1.regs
def view4 (g : Rg) : Int × Int × Bool × Int := (g.PC, g.SP, g.IME, g.St)
structure Pl1 (op : Int) : Prop where
  x : (fun g l => tickM (ofR (z true g)) op l) = (fun g l => (lookM (ofR (ex1 op (z true g))) l, 0))
  v : (fun g => view4 (ex1 op (z true g))) = (fun g => (nxt g.PC, g.SP, true, 0))
  y : (fun g m => firstF (z true g) m op) = (fun g m => some (1, ofR (ex1 op (z true g)), m))
structure Pl2 (op : Int) : Prop where
  a : (fun g l => tickM (ofR (z true g)) op l) = (fun g _ => (md2 op (z true g), 0))
  w : (fun g => ((md2 op (z true g)).want, (md2 op (z true g)).mid, okC (md2 op (z true g)))) = (fun _ => (idleW, true, true))
  x : (fun g l => tickM (md2 op (z true g)) 0 l) = (fun g l => (lookM (ofR (ex2 op (z true g))) l, 0))
  v : (fun g => view4 (ex2 op (z true g))) = (fun g => (nxt g.PC, g.SP, true, 0))
  y : (fun g m => firstF (z true g) m op) = (fun g m => some (2, ofR (ex2 op (z true g)), m))
theorem pl128 : Pl1 128 := ⟨by kernel_rfl, by kernel_rfl, by kernel_rfl⟩
theorem pl129 : Pl1 129 := ⟨by kernel_rfl, by kernel_rfl, by kernel_rfl⟩
theorem pl130 : Pl1 130 := ⟨by kernel_rfl, by kernel_rfl, by kernel_rfl⟩
theorem pl131 : Pl1 131 := ⟨by kernel_rfl, by kernel_rfl, by kernel_rfl⟩
theorem pl132 : Pl1 132 := ⟨by kernel_rfl, by kernel_rfl, by kernel_rfl⟩
theorem pl133 : Pl1 133 := ⟨by kernel_rfl, by kernel_rfl, by kernel_rfl⟩
theorem pl135 : Pl1 135 := ⟨by kernel_rfl, by kernel_rfl, by kernel_rfl⟩
theorem pl136 : Pl1 136 := ⟨by kernel_rfl, by kernel_rfl, by kernel_rfl⟩
theorem pl137 : Pl1 137 := ⟨by kernel_rfl, by kernel_rfl, by kernel_rfl⟩
theorem pl138 : Pl1 138 := ⟨by kernel_rfl, by kernel_rfl, by kernel_rfl⟩
theorem pl139 : Pl1 139 := ⟨by kernel_rfl, by kernel_rfl, by kernel_rfl⟩
theorem pl140 : Pl1 140 := ⟨by kernel_rfl, by kernel_rfl, by kernel_rfl⟩
theorem pl141 : Pl1 141 := ⟨by kernel_rfl, by kernel_rfl, by kernel_rfl⟩
theorem pl143 : Pl1 143 := ⟨by kernel_rfl, by kernel_rfl, by kernel_rfl⟩
theorem pl144 : Pl1 144 := ⟨by kernel_rfl, by kernel_rfl, by kernel_rfl⟩
theorem pl145 : Pl1 145 := ⟨by kernel_rfl, by kernel_rfl, by kernel_rfl⟩
theorem pl146 : Pl1 146 := ⟨by kernel_rfl, by kernel_rfl, by kernel_rfl⟩
theorem pl147 : Pl1 147 := ⟨by kernel_rfl, by kernel_rfl, by kernel_rfl⟩
theorem pl148 : Pl1 148 := ⟨by kernel_rfl, by kernel_rfl, by kernel_rfl⟩
theorem pl149 : Pl1 149 := ⟨by kernel_rfl, by kernel_rfl, by kernel_rfl⟩
theorem pl151 : Pl1 151 := ⟨by kernel_rfl, by kernel_rfl, by kernel_rfl⟩
theorem pl152 : Pl1 152 := ⟨by kernel_rfl, by kernel_rfl, by kernel_rfl⟩
theorem pl153 : Pl1 153 := ⟨by kernel_rfl, by kernel_rfl, by kernel_rfl⟩
theorem pl154 : Pl1 154 := ⟨by kernel_rfl, by kernel_rfl, by kernel_rfl⟩
theorem pl155 : Pl1 155 := ⟨by kernel_rfl, by kernel_rfl, by kernel_rfl⟩
theorem pl156 : Pl1 156 := ⟨by kernel_rfl, by kernel_rfl, by kernel_rfl⟩
theorem pl157 : Pl1 157 := ⟨by kernel_rfl, by kernel_rfl, by kernel_rfl⟩
theorem pl159 : Pl1 159 := ⟨by kernel_rfl, by kernel_rfl, by kernel_rfl⟩
theorem pl160 : Pl1 160 := ⟨by kernel_rfl, by kernel_rfl, by kernel_rfl⟩
theorem pl161 : Pl1 161 := ⟨by kernel_rfl, by kernel_rfl, by kernel_rfl⟩
theorem pl162 : Pl1 162 := ⟨by kernel_rfl, by kernel_rfl, by kernel_rfl⟩
theorem pl163 : Pl1 163 := ⟨by kernel_rfl, by kernel_rfl, by kernel_rfl⟩
theorem pl164 : Pl1 164 := ⟨by kernel_rfl, by kernel_rfl, by kernel_rfl⟩
theorem pl165 : Pl1 165 := ⟨by kernel_rfl, by kernel_rfl, by kernel_rfl⟩
theorem pl167 : Pl1 167 := ⟨by kernel_rfl, by kernel_rfl, by kernel_rfl⟩
theorem pl168 : Pl1 168 := ⟨by kernel_rfl, by kernel_rfl, by kernel_rfl⟩
theorem pl169 : Pl1 169 := ⟨by kernel_rfl, by kernel_rfl, by kernel_rfl⟩
theorem pl170 : Pl1 170 := ⟨by kernel_rfl, by kernel_rfl, by kernel_rfl⟩
theorem pl171 : Pl1 171 := ⟨by kernel_rfl, by kernel_rfl, by kernel_rfl⟩
theorem pl172 : Pl1 172 := ⟨by kernel_rfl, by kernel_rfl, by kernel_rfl⟩
theorem pl173 : Pl1 173 := ⟨by kernel_rfl, by kernel_rfl, by kernel_rfl⟩
theorem pl175 : Pl1 175 := ⟨by kernel_rfl, by kernel_rfl, by kernel_rfl⟩
theorem pl176 : Pl1 176 := ⟨by kernel_rfl, by kernel_rfl, by kernel_rfl⟩
theorem pl177 : Pl1 177 := ⟨by kernel_rfl, by kernel_rfl, by kernel_rfl⟩
theorem pl178 : Pl1 178 := ⟨by kernel_rfl, by kernel_rfl, by kernel_rfl⟩
theorem pl179 : Pl1 179 := ⟨by kernel_rfl, by kernel_rfl, by kernel_rfl⟩
theorem pl180 : Pl1 180 := ⟨by kernel_rfl, by kernel_rfl, by kernel_rfl⟩
theorem pl181 : Pl1 181 := ⟨by kernel_rfl, by kernel_rfl, by kernel_rfl⟩
theorem pl183 : Pl1 183 := ⟨by kernel_rfl, by kernel_rfl, by kernel_rfl⟩
theorem pl184 : Pl1 184 := ⟨by kernel_rfl, by kernel_rfl, by kernel_rfl⟩
theorem pl185 : Pl1 185 := ⟨by kernel_rfl, by kernel_rfl, by kernel_rfl⟩
theorem pl186 : Pl1 186 := ⟨by kernel_rfl, by kernel_rfl, by kernel_rfl⟩
theorem pl187 : Pl1 187 := ⟨by kernel_rfl, by kernel_rfl, by kernel_rfl⟩
theorem pl188 : Pl1 188 := ⟨by kernel_rfl, by kernel_rfl, by kernel_rfl⟩
theorem pl189 : Pl1 189 := ⟨by kernel_rfl, by kernel_rfl, by kernel_rfl⟩
theorem pl191 : Pl1 191 := ⟨by kernel_rfl, by kernel_rfl, by kernel_rfl⟩
theorem pl4 : Pl1 4 := ⟨by kernel_rfl, by kernel_rfl, by kernel_rfl⟩
theorem pl5 : Pl1 5 := ⟨by kernel_rfl, by kernel_rfl, by kernel_rfl⟩
theorem pl12 : Pl1 12 := ⟨by kernel_rfl, by kernel_rfl, by kernel_rfl⟩
theorem pl13 : Pl1 13 := ⟨by kernel_rfl, by kernel_rfl, by kernel_rfl⟩
theorem pl20 : Pl1 20 := ⟨by kernel_rfl, by kernel_rfl, by kernel_rfl⟩
theorem pl21 : Pl1 21 := ⟨by kernel_rfl, by kernel_rfl, by kernel_rfl⟩
theorem pl28 : Pl1 28 := ⟨by kernel_rfl, by kernel_rfl, by kernel_rfl⟩
theorem pl29 : Pl1 29 := ⟨by kernel_rfl, by kernel_rfl, by kernel_rfl⟩
theorem pl60 : Pl1 60 := ⟨by kernel_rfl, by kernel_rfl, by kernel_rfl⟩
theorem pl61 : Pl1 61 := ⟨by kernel_rfl, by kernel_rfl, by kernel_rfl⟩
theorem pl7 : Pl1 7 := ⟨by kernel_rfl, by kernel_rfl, by kernel_rfl⟩
theorem pl15 : Pl1 15 := ⟨by kernel_rfl, by kernel_rfl, by kernel_rfl⟩
theorem pl23 : Pl1 23 := ⟨by kernel_rfl, by kernel_rfl, by kernel_rfl⟩
theorem pl31 : Pl1 31 := ⟨by kernel_rfl, by kernel_rfl, by kernel_rfl⟩
theorem pl39 : Pl1 39 := ⟨by kernel_rfl, by kernel_rfl, by kernel_rfl⟩
theorem pl47 : Pl1 47 := ⟨by kernel_rfl, by kernel_rfl, by kernel_rfl⟩
theorem pl55 : Pl1 55 := ⟨by kernel_rfl, by kernel_rfl, by kernel_rfl⟩
theorem pl63 : Pl1 63 := ⟨by kernel_rfl, by kernel_rfl, by kernel_rfl⟩
theorem pl3 : Pl2 3 := ⟨by kernel_rfl, by kernel_rfl, by kernel_rfl, by kernel_rfl, by kernel_rfl⟩
theorem pl19 : Pl2 19 := ⟨by kernel_rfl, by kernel_rfl, by kernel_rfl, by kernel_rfl, by kernel_rfl⟩
theorem pl35 : Pl2 35 := ⟨by kernel_rfl, by kernel_rfl, by kernel_rfl, by kernel_rfl, by kernel_rfl⟩
theorem pl11 : Pl2 11 := ⟨by kernel_rfl, by kernel_rfl, by kernel_rfl, by kernel_rfl, by kernel_rfl⟩
theorem pl27 : Pl2 27 := ⟨by kernel_rfl, by kernel_rfl, by kernel_rfl, by kernel_rfl, by kernel_rfl⟩
theorem pl43 : Pl2 43 := ⟨by kernel_rfl, by kernel_rfl, by kernel_rfl, by kernel_rfl, by kernel_rfl⟩
theorem pl9 : Pl2 9 := ⟨by kernel_rfl, by kernel_rfl, by kernel_rfl, by kernel_rfl, by kernel_rfl⟩
theorem pl25 : Pl2 25 := ⟨by kernel_rfl, by kernel_rfl, by kernel_rfl, by kernel_rfl, by kernel_rfl⟩
theorem pl41 : Pl2 41 := ⟨by kernel_rfl, by kernel_rfl, by kernel_rfl, by kernel_rfl, by kernel_rfl⟩
theorem pl120 : Pl1 120 := ⟨by kernel_rfl, by kernel_rfl, by kernel_rfl⟩
theorem pl71 : Pl1 71 := ⟨by kernel_rfl, by kernel_rfl, by kernel_rfl⟩
theorem pl74 : Pl1 74 := ⟨by kernel_rfl, by kernel_rfl, by kernel_rfl⟩
theorem pl83 : Pl1 83 := ⟨by kernel_rfl, by kernel_rfl, by kernel_rfl⟩
theorem pl96 : Pl1 96 := ⟨by kernel_rfl, by kernel_rfl, by kernel_rfl⟩
end Go.Proofs.YtmlfmkebljdoiaaGreatDoor

namespace Go.Proofs.YtmlfmkebljdoiaaGreatDoor
open Go.Ev Go.Ev.Tr Go.Proofs
set_option maxRecDepth 1000000
/-! ### every plain instruction -/
theorem plAll (n : Int) : Pl1 (plainM n) ∨ Pl2 (plainM n) := by
  rcases plainT_some n with ⟨k, h1, h2, h3⟩ | ⟨k, h1, h3⟩
  · have e : plainM n = 128 + (k : Int) := by unfold plainM; rw [h3]; rfl
    rw [e]
    left
    have hc : k = 0 ∨ k = 1 ∨ k = 2 ∨ k = 3 ∨ k = 4 ∨ k = 5 ∨ k = 7 ∨ k = 8 ∨ k = 9 ∨ k = 10 ∨ k = 11 ∨ k = 12 ∨ k = 13 ∨ k = 15 ∨ k = 16 ∨ k = 17 ∨ k = 18 ∨ k = 19 ∨ k = 20 ∨ k = 21 ∨ k = 23 ∨ k = 24 ∨ k = 25 ∨ k = 26 ∨ k = 27 ∨ k = 28 ∨ k = 29 ∨ k = 31 ∨ k = 32 ∨ k = 33 ∨ k = 34 ∨ k = 35 ∨ k = 36 ∨ k = 37 ∨ k = 39 ∨ k = 40 ∨ k = 41 ∨ k = 42 ∨ k = 43 ∨ k = 44 ∨ k = 45 ∨ k = 47 ∨ k = 48 ∨ k = 49 ∨ k = 50 ∨ k = 51 ∨ k = 52 ∨ k = 53 ∨ k = 55 ∨ k = 56 ∨ k = 57 ∨ k = 58 ∨ k = 59 ∨ k = 60 ∨ k = 61 ∨ k = 63 := by omega
    rcases hc with rfl | rfl | rfl | rfl | rfl | rfl | rfl | rfl | rfl | rfl | rfl | rfl | rfl | rfl | rfl | rfl | rfl | rfl | rfl | rfl | rfl | rfl | rfl | rfl | rfl | rfl | rfl | rfl | rfl | rfl | rfl | rfl | rfl | rfl | rfl | rfl | rfl | rfl | rfl | rfl | rfl | rfl | rfl | rfl | rfl | rfl | rfl | rfl | rfl | rfl | rfl | rfl | rfl | rfl | rfl | rfl
    · exact pl128
    · exact pl129
    · exact pl130
    · exact pl131
    · exact pl132
    · exact pl133
    · exact pl135
    · exact pl136
    · exact pl137
    · exact pl138
    · exact pl139
    · exact pl140
    · exact pl141
    · exact pl143
    · exact pl144
    · exact pl145
    · exact pl146
    · exact pl147
    · exact pl148
    · exact pl149
    · exact pl151
    · exact pl152
    · exact pl153
    · exact pl154
    · exact pl155
    · exact pl156
    · exact pl157
    · exact pl159
    · exact pl160
    · exact pl161
    · exact pl162
    · exact pl163
    · exact pl164
    · exact pl165
    · exact pl167
    · exact pl168
    · exact pl169
    · exact pl170
    · exact pl171
    · exact pl172
    · exact pl173
    · exact pl175
    · exact pl176
    · exact pl177
    · exact pl178
    · exact pl179
    · exact pl180
    · exact pl181
    · exact pl183
    · exact pl184
    · exact pl185
    · exact pl186
    · exact pl187
    · exact pl188
    · exact pl189
    · exact pl191
  · have e : plainM n = plL.getD k 0 := by unfold plainM; rw [h3]; rfl
    rw [e]
    have hc : k = 0 ∨ k = 1 ∨ k = 2 ∨ k = 3 ∨ k = 4 ∨ k = 5 ∨ k = 6 ∨ k = 7 ∨ k = 8 ∨ k = 9 ∨ k = 10 ∨ k = 11 ∨ k = 12 ∨ k = 13 ∨ k = 14 ∨ k = 15 ∨ k = 16 ∨ k = 17 ∨ k = 18 ∨ k = 19 ∨ k = 20 ∨ k = 21 ∨ k = 22 ∨ k = 23 ∨ k = 24 ∨ k = 25 ∨ k = 26 ∨ k = 27 ∨ k = 28 ∨ k = 29 ∨ k = 30 ∨ k = 31 := by omega
    rcases hc with rfl | rfl | rfl | rfl | rfl | rfl | rfl | rfl | rfl | rfl | rfl | rfl | rfl | rfl | rfl | rfl | rfl | rfl | rfl | rfl | rfl | rfl | rfl | rfl | rfl | rfl | rfl | rfl | rfl | rfl | rfl | rfl
    · exact .inl pl4
    · exact .inl pl5
    · exact .inl pl12
    · exact .inl pl13
    · exact .inl pl20
    · exact .inl pl21
    · exact .inl pl28
    · exact .inl pl29
    · exact .inl pl60
    · exact .inl pl61
    · exact .inl pl7
    · exact .inl pl15
    · exact .inl pl23
    · exact .inl pl31
    · exact .inl pl39
    · exact .inl pl47
    · exact .inl pl55
    · exact .inl pl63
    · exact .inr pl3
    · exact .inr pl19
    · exact .inr pl35
    · exact .inr pl11
    · exact .inr pl27
    · exact .inr pl43
    · exact .inr pl9
    · exact .inr pl25
    · exact .inr pl41
    · exact .inl pl120
    · exact .inl pl71
    · exact .inl pl74
    · exact .inl pl83
    · exact .inl pl96
/-! ### dispatch and RETI -/
def d1 (g : Rg) : Cpu := { lookX (ofR g) with step := 1 }
def d2 (g : Rg) : Cpu := { lookX (ofR g) with step := 2, want := wrW ((g.SP - 1) % 65536) (g.PC / 256) }
def d3 (g : Rg) : Cpu := { lookX (ofR g) with step := 3, want := wrW ((g.SP - 2) % 65536) (g.PC % 256) }
def d4 (g : Rg) (p : Int) : Cpu := { lookX (ofR g) with step := 4, want := idleW, pick := p }
/-- At the handler. -/
def hd (g : Rg) (pc : Int) : Rg := { g with PC := pc, SP := (g.SP - 2) % 65536, IME := false }
theorem dk0 : (fun g l => tickM (lookX (ofR g)) 0 l) = (fun g _ => (d1 g, 0)) := by kernel_rfl
theorem dk1 : (fun g l => tickM (d1 g) 0 l) = (fun g _ => (d2 g, 0)) := by kernel_rfl
theorem dk2 : (fun g l => tickM (d2 g) 0 l) = (fun g _ => (d3 g, 0)) := by kernel_rfl
theorem dk3 : (fun g l => tickM (d3 g) 0 l) = (fun g l => (d4 g (lowBit l), 0)) := by kernel_rfl
theorem dk4 : (fun g p l => tickM (d4 (z true g) p) 0 l) = (fun g p _ => chainK vects p 0 (fun pc => (ofR (hd (z true g) pc), p))) := by kernel_rfl
noncomputable def r1 (h : Rg) : Cpu := (tickM (ofR h) 217 0).1
noncomputable def r2 (h : Rg) (d : Int) : Cpu := (tickM (r1 h) d 0).1
noncomputable def r3 (h : Rg) (d e : Int) : Cpu := (tickM (r2 h d) e 0).1
theorem rk0 : (fun h l => tickM (ofR (z false h)) 217 l) = (fun h _ => (r1 (z false h), 0)) := by kernel_rfl
theorem rk1 : (fun h d l => tickM (r1 (z false h)) d l) = (fun h d _ => (r2 (z false h) d, 0)) := by kernel_rfl
theorem rk2 : (fun h d e l => tickM (r2 (z false h) d) e l) = (fun h d e _ => (r3 (z false h) d e, 0)) := by kernel_rfl
def rb (h : Rg) (d e : Int) : Rg := { h with PC := orf (e * 256) d, SP := (h.SP + 2) % 65536, IME := true }
theorem rk3 : (fun h d e l => tickM (r3 (z false h) d e) 0 l) = (fun h d e l => (lookM (ofR (rb (z false h) d e)) l, 0)) := by kernel_rfl
theorem rw1 : (fun h => ((r1 (z false h)).want, (r1 (z false h)).mid, okC (r1 (z false h)))) = (fun h => (rdW h.SP, true, true)) := by kernel_rfl
theorem rw2 : (fun h d => ((r2 (z false h) d).want, (r2 (z false h) d).mid, okC (r2 (z false h) d))) = (fun h _ => (rdW ((h.SP + 1) % 65536), true, true)) := by kernel_rfl
theorem rw3 : (fun h d e => ((r3 (z false h) d e).want, (r3 (z false h) d e).mid, okC (r3 (z false h) d e))) = (fun _ _ _ => (idleW, true, true)) := by kernel_rfl
theorem nk : (fun h l => tickM (ofR (z false h)) 0 l) = (fun h _ => (ofR (z false { h with PC := nxt h.PC }), 0)) := by kernel_rfl
theorem low_all : ∀ l, l < 32 → lowBit (l : Nat) = 0 ∨ lowBit (l : Nat) = 1 ∨ lowBit (l : Nat) = 2 ∨ lowBit (l : Nat) = 4 ∨ lowBit (l : Nat) = 8 ∨ lowBit (l : Nat) = 16 := by decide +kernel
end Go.Proofs.YtmlfmkebljdoiaaGreatDoor

namespace Go.Proofs.YtmlfmkebljdoiaaGreatDoor
open Go.Ev Go.Ev.Tr Go.Proofs
set_option maxRecDepth 1000000
theorem zT {h : Rg} (h1 : h.IME = true) (h2 : h.St = 0) : z true h = h := by cases h; simp only at h1 h2; subst h1; subst h2; rfl
theorem zF {h : Rg} (h1 : h.IME = false) (h2 : h.St = 0) : z false h = h := by cases h; simp only at h1 h2; subst h1; subst h2; rfl
open Classical in
noncomputable def exH (op : Int) (h : Rg) : Rg := if Pl2 op then ex2 op h else ex1 op h
noncomputable def GH (ops : Nat → Int) (g : Rg) : Nat → Rg
  | 0 => g
  | j + 1 => exH (ops j) (GH ops g j)
structure GoodH (h : Rg) (j : Nat) : Prop where
  pc : h.PC = 512 + (j : Int)
  sp : h.SP = 60000
  ime : h.IME = true
  st : h.St = 0
theorem exH_good {op : Int} {h : Rg} {j : Nat} (hj : j ≤ 1000) (hp : Pl1 op ∨ Pl2 op) (hg : GoodH h j) : GoodH (exH op h) (j + 1) := by
  have hz := zT hg.ime hg.st
  have key : ∀ r : Rg, view4 r = (nxt h.PC, h.SP, true, 0) → GoodH r (j + 1) := fun r e => by
    unfold view4 at e
    simp only [Prod.mk.injEq] at e
    obtain ⟨e1, e2, e3, e4⟩ := e
    refine ⟨?_, by rw [e2, hg.sp], e3, e4⟩
    rw [e1, hg.pc]; unfold nxt; omega
  unfold exH
  by_cases h2 : Pl2 op
  · rw [if_pos h2]
    have := congrFun h2.v h
    rw [hz] at this
    exact key _ this
  · rw [if_neg h2]
    have := congrFun (hp.resolve_right h2).v h
    rw [hz] at this
    exact key _ this
section
variable {ops : Nat → Int} {g : Rg} {n : Nat} {m : Mem}
theorem GH_good (hops : ∀ j, Pl1 (ops j) ∨ Pl2 (ops j)) (hg : GoodH g 0) : ∀ j, j ≤ 1000 → GoodH (GH ops g j) j
  | 0, _ => hg
  | j + 1, h => exH_good (by omega) (hops j) (GH_good hops hg j (by omega))
/-- The memory, but for the stack. -/
structure MemH (ops : Nat → Int) (n : Nat) (m : Mem) : Prop where
  code : ∀ j, j < n → m (512 + j) = ops j
  v0 : m 64 = 217
  v1 : m 72 = 217
  v2 : m 80 = 217
  v3 : m 88 = 217
  v4 : m 96 = 217
  zero : ∀ a, a < 64 → m a = 0
theorem MemH.wr (h : MemH ops n m) (hn : n ≤ 60) {a v : Int} (h0 : 59000 ≤ a) (h1 : a ≤ 60000) : MemH ops n (wrM m a v) := by
  have e : pk16 a = a.toNat := pk16_id (by omega) (by omega)
  have key : ∀ j : Nat, j < 59000 → wrM m a v j = m j := fun j hj => by unfold wrM; rw [e, if_neg (by omega)]
  exact ⟨fun j hj => by rw [key _ (by omega)]; exact h.code j hj, by rw [key _ (by omega)]; exact h.v0, by rw [key _ (by omega)]; exact h.v1, by rw [key _ (by omega)]; exact h.v2, by rw [key _ (by omega)]; exact h.v3, by rw [key _ (by omega)]; exact h.v4, fun a ha => by rw [key _ (by omega)]; exact h.zero a ha⟩
/-- Where it is. -/
inductive Ph where
  | run (j : Nat)
  | mid (j : Nat)
  | ds (j s : Nat) (p : Int)
  | hn (j : Nat) (pc : Int)
  | rt (j s : Nat) (pc : Int)
noncomputable def cPh (ops : Nat → Int) (g : Rg) : Ph → Cpu
  | .run j => ofR (GH ops g j)
  | .mid j => md2 (ops j) (GH ops g j)
  | .ds j 0 _ => lookX (ofR (GH ops g j))
  | .ds j 1 _ => d1 (GH ops g j)
  | .ds j 2 _ => d2 (GH ops g j)
  | .ds j 3 _ => d3 (GH ops g j)
  | .ds j _ p => d4 (GH ops g j) p
  | .hn j pc => ofR (hd (GH ops g j) pc)
  | .rt j 1 pc => r1 (hd (GH ops g j) pc)
  | .rt j 2 pc => r2 (hd (GH ops g j) pc) j
  | .rt j _ pc => r3 (hd (GH ops g j) pc) j 2
def stk (j : Nat) (m : Mem) : Prop := m 59999 = 2 ∧ m 59998 = (j : Int)
def pcOk (pc : Int) : Prop := (0 ≤ pc ∧ pc ≤ 64) ∨ pc = 72 ∨ pc = 80 ∨ pc = 88 ∨ pc = 96
def vPh (ops : Nat → Int) (n : Nat) (m : Mem) : Ph → Prop
  | .run j => j ≤ n
  | .mid j => j < n ∧ Pl2 (ops j)
  | .ds j s p => j ≤ n ∧ s ≤ 4 ∧ (3 ≤ s → m 59999 = 2) ∧ (4 ≤ s → m 59998 = (j : Int) ∧ (p = 0 ∨ p = 1 ∨ p = 2 ∨ p = 4 ∨ p = 8 ∨ p = 16))
  | .hn j pc => j ≤ n ∧ pcOk pc ∧ stk j m
  | .rt j s pc => j ≤ n ∧ 1 ≤ s ∧ s ≤ 3 ∧ pcOk pc ∧ stk j m
def TPh (n : Nat) : Ph → Nat
  | .run j => 2 * (n - j)
  | .mid j => 2 * (n - j) - 1
  | .ds j s _ => (5 - s) + 68 + 2 * (n - j)
  | .hn j pc => (64 - pc).toNat + 4 + 2 * (n - j)
  | .rt j s _ => (4 - s) + 2 * (n - j)
theorem look_run {h : Rg} {j : Nat} (hg : GoodH h j) (l : Int) : lookM (ofR h) l = bif l == 0 then ofR h else lookX (ofR h) := by
  have e1 : (ofR h).cur = h := rfl
  unfold lookM
  rw [e1, hg.st, hg.ime]
  cases hl : l == 0 <;> simp
/-- An interrupt taken: what the law asks. -/
def Taken (n : Nat) (φ : Ph) (a : Int) : Prop := ∃ j k : Nat, k < 5 ∧ j ≤ n ∧ φ = .hn j (64 + 8 * (k : Int)) ∧ a = ((2 ^ k : Nat) : Int)
structure StepP (ops : Nat → Int) (g : Rg) (n : Nat) (m : Mem) (φ : Ph) (l : Int) (φ' : Ph) (a : Int) : Prop where
  tick : tickM (cPh ops g φ) (cycD (cPh ops g φ) m) l = (cPh ops g φ', a)
  ok : okC (cPh ops g φ) = true
  mem : MemH ops n (cycMem (cPh ops g φ) m)
  val : vPh ops n (cycMem (cPh ops g φ) m) φ'
  less : l = 0 → TPh n φ' < TPh n φ
  tk : a = 0 ∨ Taken n φ' a ∧ stk (match φ' with | .hn j _ => j | _ => 0) (cycMem (cPh ops g φ) m)
theorem cyc_rd {c : Cpu} {a : Int} (h : c.want = rdW a) (m : Mem) : cycD c m = m (pk16 a) ∧ cycMem c m = m := by
  unfold cycD cycMem; rw [h]; exact ⟨rfl, rfl⟩
theorem cyc_id {c : Cpu} (h : c.want = idleW) (m : Mem) : cycD c m = 0 ∧ cycMem c m = m := by
  unfold cycD cycMem; rw [h]; exact ⟨rfl, rfl⟩
theorem cyc_wr {c : Cpu} {a v : Int} (h : c.want = wrW a v) (m : Mem) : cycD c m = 0 ∧ cycMem c m = wrM m a v := by
  unfold cycD cycMem; rw [h]; exact ⟨rfl, rfl⟩
/-- Behind an instruction: on, or off to a handler. -/
theorem after_run {h : Rg} {j : Nat} (hG : GH ops g j = h) (hg : GoodH h j) (l : Int) : ∃ φ', lookM (ofR h) l = cPh ops g φ' ∧ (l = 0 → φ' = .run j) ∧ (φ' = .run j ∨ φ' = .ds j 0 0) := by
  rw [look_run hg]
  cases hl : l == 0 with
  | true => exact ⟨.run j, by subst hG; rfl, fun _ => rfl, .inl rfl⟩
  | false => exact ⟨.ds j 0 0, by subst hG; rfl, fun e => by subst e; simp at hl, .inr rfl⟩
theorem step_run (hops : ∀ j, Pl1 (ops j) ∨ Pl2 (ops j)) (hg : GoodH g 0) (hn : n ≤ 60) (hm : MemH ops n m) {j : Nat} (hj : j < n) (l : Int) : ∃ φ' a, StepP ops g n m (.run j) l φ' a := by
  have hG := GH_good hops hg j (by omega)
  have hz := zT hG.ime hG.st
  obtain ⟨c1, c2⟩ := cyc_rd (c := cPh ops g (.run j)) (a := (GH ops g j).PC) rfl m
  have hd : cycD (cPh ops g (.run j)) m = ops j := by
    rw [c1, hG.pc, pk16_id (by omega) (by omega), show (512 + (j : Int)).toNat = 512 + j by omega]
    exact hm.code j hj
  by_cases h2 : Pl2 (ops j)
  · refine ⟨.mid j, 0, ?_, rfl, by rw [c2]; exact hm, ⟨hj, h2⟩, fun _ => ?_, .inl rfl⟩
    · rw [hd]
      have := congrFun (congrFun h2.a (GH ops g j)) l
      rw [hz] at this; exact this
    · show 2 * (n - j) - 1 < 2 * (n - j); omega
  · have h1 := (hops j).resolve_right h2
    have hG' := GH_good hops hg (j + 1) (by omega)
    have e : GH ops g (j + 1) = ex1 (ops j) (GH ops g j) := by
      show exH _ _ = _
      unfold exH; rw [if_neg h2]
    rw [e] at hG'
    obtain ⟨φ', f1, f2, f3⟩ := after_run e hG' l
    refine ⟨φ', 0, ?_, rfl, by rw [c2]; exact hm, ?_, fun hl => ?_, .inl rfl⟩
    · rw [hd, ← f1]
      have := congrFun (congrFun h1.x (GH ops g j)) l
      rw [hz] at this; exact this
    · rcases f3 with rfl | rfl
      · exact hj
      · exact ⟨hj, by omega, fun h => by omega, fun h => by omega⟩
    · rw [f2 hl]
      show 2 * (n - (j + 1)) < 2 * (n - j); omega
theorem step_mid (hops : ∀ j, Pl1 (ops j) ∨ Pl2 (ops j)) (hg : GoodH g 0) (hn : n ≤ 60) (hm : MemH ops n m) {j : Nat} (hj : j < n) (h2 : Pl2 (ops j)) (l : Int) : ∃ φ' a, StepP ops g n m (.mid j) l φ' a := by
  have hG := GH_good hops hg j (by omega)
  have hz := zT hG.ime hG.st
  have hw := congrFun h2.w (GH ops g j)
  rw [hz] at hw
  simp only [Prod.mk.injEq] at hw
  obtain ⟨w1, w2, w3⟩ := hw
  obtain ⟨c1, c2⟩ := cyc_id (c := cPh ops g (.mid j)) w1 m
  have hG' := GH_good hops hg (j + 1) (by omega)
  have e : GH ops g (j + 1) = ex2 (ops j) (GH ops g j) := by
    show exH _ _ = _
    unfold exH; rw [if_pos h2]
  rw [e] at hG'
  obtain ⟨φ', f1, f2, f3⟩ := after_run e hG' l
  refine ⟨φ', 0, ?_, w3, by rw [c2]; exact hm, ?_, fun hl => ?_, .inl rfl⟩
  · rw [c1, ← f1]
    have := congrFun (congrFun h2.x (GH ops g j)) l
    rw [hz] at this; exact this
  · rcases f3 with rfl | rfl
    · exact hj
    · exact ⟨hj, by omega, fun h => by omega, fun h => by omega⟩
  · rw [f2 hl]
    show 2 * (n - (j + 1)) < 2 * (n - j) - 1; omega
theorem wr_at {m : Mem} {a v : Int} (h0 : 0 ≤ a) (h1 : a ≤ 65535) (j : Nat) : wrM m a v j = if (j : Int) = a then v else m j := by
  unfold wrM
  rw [pk16_id h0 h1]
  by_cases e : (j : Int) = a
  · rw [if_pos e, if_pos (by omega)]
  · rw [if_neg e, if_neg (by omega)]
theorem step_ds (hops : ∀ j, Pl1 (ops j) ∨ Pl2 (ops j)) (hg : GoodH g 0) (hn : n ≤ 60) (hm : MemH ops n m) {j s : Nat} {p : Int} (hv : vPh ops n m (.ds j s p)) (l : Nat) (hl : l < 32) : ∃ φ' a, StepP ops g n m (.ds j s p) l φ' a := by
  obtain ⟨hj, hs, h3, h4⟩ := hv
  have hG := GH_good hops hg j (by omega)
  have hz := zT hG.ime hG.st
  have hc : s = 0 ∨ s = 1 ∨ s = 2 ∨ s = 3 ∨ s = 4 := by omega
  rcases hc with rfl | rfl | rfl | rfl | rfl
  · obtain ⟨c1, c2⟩ := cyc_id (c := cPh ops g (.ds j 0 p)) rfl m
    refine ⟨.ds j 1 0, 0, ?_, rfl, by rw [c2]; exact hm, ⟨hj, by omega, fun h => by omega, fun h => by omega⟩, fun _ => by show 5 - 1 + 68 + 2 * (n - j) < 5 - 0 + 68 + 2 * (n - j); omega, .inl rfl⟩
    rw [c1]; exact congrFun (congrFun dk0 (GH ops g j)) (l : Int)
  · obtain ⟨c1, c2⟩ := cyc_id (c := cPh ops g (.ds j 1 p)) rfl m
    refine ⟨.ds j 2 0, 0, ?_, rfl, by rw [c2]; exact hm, ⟨hj, by omega, fun h => by omega, fun h => by omega⟩, fun _ => by show 5 - 2 + 68 + 2 * (n - j) < 5 - 1 + 68 + 2 * (n - j); omega, .inl rfl⟩
    rw [c1]; exact congrFun (congrFun dk1 (GH ops g j)) (l : Int)
  · obtain ⟨c1, c2⟩ := cyc_wr (c := cPh ops g (.ds j 2 p)) (a := ((GH ops g j).SP - 1) % 65536) (v := (GH ops g j).PC / 256) rfl m
    rw [hG.sp, hG.pc] at c2
    have ea : ((60000 : Int) - 1) % 65536 = 59999 := by decide
    rw [ea] at c2
    refine ⟨.ds j 3 0, 0, ?_, rfl, by rw [c2]; exact hm.wr hn (by omega) (by omega), ⟨hj, by omega, fun _ => ?_, fun h => by omega⟩, fun _ => by show 5 - 3 + 68 + 2 * (n - j) < 5 - 2 + 68 + 2 * (n - j); omega, .inl rfl⟩
    · rw [c1]; exact congrFun (congrFun dk2 (GH ops g j)) (l : Int)
    · rw [c2, wr_at (by omega) (by omega), if_pos (by omega)]; omega
  · obtain ⟨c1, c2⟩ := cyc_wr (c := cPh ops g (.ds j 3 p)) (a := ((GH ops g j).SP - 2) % 65536) (v := (GH ops g j).PC % 256) rfl m
    rw [hG.sp, hG.pc] at c2
    have ea : ((60000 : Int) - 2) % 65536 = 59998 := by decide
    rw [ea] at c2
    refine ⟨.ds j 4 (lowBit (l : Nat)), 0, ?_, rfl, by rw [c2]; exact hm.wr hn (by omega) (by omega), ⟨hj, by omega, fun _ => ?_, fun _ => ⟨?_, low_all l hl⟩⟩, fun _ => by show 5 - 4 + 68 + 2 * (n - j) < 5 - 3 + 68 + 2 * (n - j); omega, .inl rfl⟩
    · rw [c1]; exact congrFun (congrFun dk3 (GH ops g j)) (l : Int)
    · rw [c2, wr_at (by omega) (by omega), if_neg (by omega)]; exact h3 (by omega)
    · rw [c2, wr_at (by omega) (by omega), if_pos (by omega)]; omega
  · obtain ⟨c1, c2⟩ := cyc_id (c := cPh ops g (.ds j 4 p)) rfl m
    obtain ⟨h5, h6⟩ := h4 (by omega)
    have ht : ∀ pc : Int, chainK vects p 0 (fun pc => (ofR (hd (GH ops g j) pc), p)) = (ofR (hd (GH ops g j) pc), p) → tickM (cPh ops g (.ds j 4 p)) (cycD (cPh ops g (.ds j 4 p)) m) l = (cPh ops g (.hn j pc), p) := fun pc e => by
      rw [c1]
      have := congrFun (congrFun (congrFun dk4 (GH ops g j)) p) (l : Int)
      rw [hz] at this
      exact this.trans e
    have hst : stk j (cycMem (cPh ops g (.ds j 4 p)) m) := by rw [c2]; exact ⟨h3 (by omega), h5⟩
    have go : ∀ (k : Nat), k < 5 → p = ((2 ^ k : Nat) : Int) → chainK vects p 0 (fun pc => (ofR (hd (GH ops g j) pc), p)) = (ofR (hd (GH ops g j) (64 + 8 * (k : Int))), p) → ∃ φ' a, StepP ops g n m (.ds j 4 p) l φ' a := fun k hk hp e => by
      refine ⟨.hn j (64 + 8 * (k : Int)), p, ht _ e, rfl, by rw [c2]; exact hm, ⟨hj, ?_, hst⟩, fun _ => ?_, .inr ⟨⟨j, k, hk, hj, rfl, hp⟩, hst⟩⟩
      · unfold pcOk; omega
      · show (64 - (64 + 8 * (k : Int))).toNat + 4 + 2 * (n - j) < 5 - 4 + 68 + 2 * (n - j); omega
    rcases h6 with rfl | rfl | rfl | rfl | rfl | rfl
    · refine ⟨.hn j 0, 0, ht 0 rfl, rfl, by rw [c2]; exact hm, ⟨hj, .inl ⟨by omega, by omega⟩, hst⟩, fun _ => ?_, .inl rfl⟩
      show (64 - (0 : Int)).toNat + 4 + 2 * (n - j) < 5 - 4 + 68 + 2 * (n - j); omega
    · exact go 0 (by omega) rfl rfl
    · exact go 1 (by omega) rfl rfl
    · exact go 2 (by omega) rfl rfl
    · exact go 3 (by omega) rfl rfl
    · exact go 4 (by omega) rfl rfl
theorem hd_sp {h : Rg} {j : Nat} (hG : GoodH h j) (pc : Int) : (hd h pc).SP = 59998 := by
  show (h.SP - 2) % 65536 = 59998
  rw [hG.sp]; decide
theorem step_hn (hops : ∀ j, Pl1 (ops j) ∨ Pl2 (ops j)) (hg : GoodH g 0) (hn : n ≤ 60) (hm : MemH ops n m) {j : Nat} {pc : Int} (hv : vPh ops n m (.hn j pc)) (l : Int) : ∃ φ' a, StepP ops g n m (.hn j pc) l φ' a := by
  obtain ⟨hj, hp, hst⟩ := hv
  have hG := GH_good hops hg j (by omega)
  have hz : z false (hd (GH ops g j) pc) = hd (GH ops g j) pc := zF rfl hG.st
  obtain ⟨c1, c2⟩ := cyc_rd (c := cPh ops g (.hn j pc)) (a := pc) rfl m
  have hpk : pk16 pc = pc.toNat := pk16_id (by unfold pcOk at hp; omega) (by unfold pcOk at hp; omega)
  by_cases h64 : pc < 64
  · have h0 : 0 ≤ pc := by unfold pcOk at hp; omega
    have hd0 : cycD (cPh ops g (.hn j pc)) m = 0 := by rw [c1, hpk]; exact hm.zero _ (by omega)
    refine ⟨.hn j (pc + 1), 0, ?_, rfl, by rw [c2]; exact hm, ⟨hj, .inl ⟨by omega, by omega⟩, by rw [c2]; exact hst⟩, fun _ => ?_, .inl rfl⟩
    · rw [hd0]
      have := congrFun (congrFun nk (hd (GH ops g j) pc)) l
      rw [hz] at this
      refine this.trans ?_
      have e : z false { hd (GH ops g j) pc with PC := nxt (hd (GH ops g j) pc).PC } = hd (GH ops g j) (pc + 1) := by
        have hnx : nxt pc = pc + 1 := by unfold nxt; omega
        show (Rg.mk _ _ _ _ _ _ _ _ _ (nxt pc) false 0) = Rg.mk _ _ _ _ _ _ _ _ _ (pc + 1) false (GH ops g j).St
        rw [hnx, hG.st]; rfl
      rw [e]; rfl
    · show (64 - (pc + 1)).toNat + 4 + 2 * (n - j) < (64 - pc).toNat + 4 + 2 * (n - j); omega
  · have hd0 : cycD (cPh ops g (.hn j pc)) m = 217 := by
      rw [c1, hpk]
      have hc : pc = 64 ∨ pc = 72 ∨ pc = 80 ∨ pc = 88 ∨ pc = 96 := by unfold pcOk at hp; omega
      rcases hc with rfl | rfl | rfl | rfl | rfl
      · exact hm.v0
      · exact hm.v1
      · exact hm.v2
      · exact hm.v3
      · exact hm.v4
    refine ⟨.rt j 1 pc, 0, ?_, rfl, by rw [c2]; exact hm, ⟨hj, by omega, by omega, hp, by rw [c2]; exact hst⟩, fun _ => ?_, .inl rfl⟩
    · rw [hd0]
      have := congrFun (congrFun rk0 (hd (GH ops g j) pc)) l
      rw [hz] at this; exact this
    · show 4 - 1 + 2 * (n - j) < (64 - pc).toNat + 4 + 2 * (n - j); omega
theorem rb_eq {h : Rg} {j : Nat} (hG : GoodH h j) (hj : j ≤ 60) (pc : Int) : rb (hd h pc) j 2 = h := by
  have e1 : orf (2 * 256) (j : Int) = 512 + (j : Int) := orf_pair (by omega) (by omega) (by omega)
  have e2 : ((hd h pc).SP + 2) % 65536 = 60000 := by rw [hd_sp hG]; decide
  unfold rb
  rw [e1, e2]
  obtain ⟨h1, h2, h3, h4⟩ := hG
  cases h
  simp only at h1 h2 h3 h4
  subst h1; subst h2; subst h3; subst h4
  rfl
theorem step_rt (hops : ∀ j, Pl1 (ops j) ∨ Pl2 (ops j)) (hg : GoodH g 0) (hn : n ≤ 60) (hm : MemH ops n m) {j s : Nat} {pc : Int} (hv : vPh ops n m (.rt j s pc)) (l : Int) : ∃ φ' a, StepP ops g n m (.rt j s pc) l φ' a := by
  obtain ⟨hj, hs1, hs2, hp, hst⟩ := hv
  have hG := GH_good hops hg j (by omega)
  have hz : z false (hd (GH ops g j) pc) = hd (GH ops g j) pc := zF rfl hG.st
  have hsp := hd_sp hG pc
  have hc : s = 1 ∨ s = 2 ∨ s = 3 := by omega
  rcases hc with rfl | rfl | rfl
  · have hw := congrFun rw1 (hd (GH ops g j) pc)
    rw [hz, hsp] at hw
    simp only [Prod.mk.injEq] at hw
    obtain ⟨w1, w2, w3⟩ := hw
    obtain ⟨c1, c2⟩ := cyc_rd (c := cPh ops g (.rt j 1 pc)) w1 m
    have hd0 : cycD (cPh ops g (.rt j 1 pc)) m = (j : Int) := by rw [c1, pk16_id (by omega) (by omega)]; exact hst.2
    refine ⟨.rt j 2 pc, 0, ?_, w3, by rw [c2]; exact hm, ⟨hj, by omega, by omega, hp, by rw [c2]; exact hst⟩, fun _ => by show 4 - 2 + 2 * (n - j) < 4 - 1 + 2 * (n - j); omega, .inl rfl⟩
    rw [hd0]
    have := congrFun (congrFun (congrFun rk1 (hd (GH ops g j) pc)) (j : Int)) l
    rw [hz] at this; exact this
  · have hw := congrFun (congrFun rw2 (hd (GH ops g j) pc)) (j : Int)
    rw [hz, hsp] at hw
    simp only [Prod.mk.injEq] at hw
    obtain ⟨w1, w2, w3⟩ := hw
    obtain ⟨c1, c2⟩ := cyc_rd (c := cPh ops g (.rt j 2 pc)) w1 m
    have ea : ((59998 : Int) + 1) % 65536 = 59999 := by decide
    rw [ea, pk16_id (by omega) (by omega)] at c1
    have hd0 : cycD (cPh ops g (.rt j 2 pc)) m = 2 := by rw [c1]; exact hst.1
    refine ⟨.rt j 3 pc, 0, ?_, w3, by rw [c2]; exact hm, ⟨hj, by omega, by omega, hp, by rw [c2]; exact hst⟩, fun _ => by show 4 - 3 + 2 * (n - j) < 4 - 2 + 2 * (n - j); omega, .inl rfl⟩
    rw [hd0]
    have := congrFun (congrFun (congrFun (congrFun rk2 (hd (GH ops g j) pc)) (j : Int)) 2) l
    rw [hz] at this; exact this
  · have hw := congrFun (congrFun (congrFun rw3 (hd (GH ops g j) pc)) (j : Int)) 2
    rw [hz] at hw
    simp only [Prod.mk.injEq] at hw
    obtain ⟨w1, w2, w3⟩ := hw
    obtain ⟨c1, c2⟩ := cyc_id (c := cPh ops g (.rt j 3 pc)) w1 m
    obtain ⟨φ', f1, f2, f3⟩ := after_run (ops := ops) (g := g) rfl hG l
    refine ⟨φ', 0, ?_, w3, by rw [c2]; exact hm, ?_, fun hl => ?_, .inl rfl⟩
    · rw [c1, ← f1]
      have := congrFun (congrFun (congrFun (congrFun rk3 (hd (GH ops g j) pc)) (j : Int)) 2) l
      rw [hz, rb_eq hG (by omega)] at this; exact this
    · rcases f3 with rfl | rfl
      · exact hj
      · exact ⟨hj, by omega, fun h => by omega, fun h => by omega⟩
    · rw [f2 hl]
      show 2 * (n - j) < 4 - 3 + 2 * (n - j); omega
/-- One cycle. -/
theorem stepP (hops : ∀ j, Pl1 (ops j) ∨ Pl2 (ops j)) (hg : GoodH g 0) (hn : n ≤ 60) (hm : MemH ops n m) {φ : Ph} (hv : vPh ops n m φ) (hne : φ ≠ .run n) (l : Nat) (hl : l < 32) : ∃ φ' a, StepP ops g n m φ l φ' a := by
  cases φ with
  | run j =>
    have hj : j ≤ n := hv
    have : j ≠ n := fun e => hne (by rw [e])
    exact step_run hops hg hn hm (by omega) l
  | mid j => exact step_mid hops hg hn hm hv.1 hv.2 l
  | ds j s p => exact step_ds hops hg hn hm hv l hl
  | hn j pc => exact step_hn hops hg hn hm hv l
  | rt j s pc => exact step_rt hops hg hn hm hv l
theorem TPh_le (hn : n ≤ 60) : ∀ φ : Ph, vPh ops n m φ → TPh n φ ≤ 193
  | .run j, h => by show 2 * (n - j) ≤ 193; omega
  | .mid j, h => by show 2 * (n - j) - 1 ≤ 193; omega
  | .ds j s p, h => by show 5 - s + 68 + 2 * (n - j) ≤ 193; omega
  | .hn j pc, h => by
    have h2 := h.2.1
    unfold pcOk at h2
    show (64 - pc).toNat + 4 + 2 * (n - j) ≤ 193; omega
  | .rt j s pc, h => by show 4 - s + 2 * (n - j) ≤ 193; omega
end
end Go.Proofs.YtmlfmkebljdoiaaGreatDoor

