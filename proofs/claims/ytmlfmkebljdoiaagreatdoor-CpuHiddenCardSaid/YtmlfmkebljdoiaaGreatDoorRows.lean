/-
  NARROWER THAN 'FOR EVERY INPUT', by the rows' own cells (each row's printed sentence says how): CpuReckons: laid · CpuMoves: laid · CpuStack: laid · CpuCalls: laid · CpuJumps: laid · CpuWords: laid · CpuBits: laid · CpuRests: laid · CpuHidden: laid · CpuLoads: laid · CpuCut: laid · CpuTimed: laid.
  DERIVED. THE GIVEN ROWS OF THIS SEAT. 12 by the template 'for every input the law returns true; each argument reads behind the call as it read before'; 0 by the template 'total and deterministic' (their statements: YtmlfmkebljdoiaaGreatDoorTotals.lean).
  GIVEN WITH THE SEED: the statements are not yours to turn. If you find one false, say at which input.
  Laid BY PROGRAM, IN A SANDBOX (cutbox-rows.mjs): the forced cells as the released guide's own fill.sh prints them over the translation 608510911647e178… (all of the seat's roots in one cut). By AI agents, Wed Nov 11 2026. No macro, syntax, notation, axiom, sorry.
-/
import Derived.Test.YtmlfmkebljdoiaaGreatDoorChecked
import GoSem.Claim
import GoSem.ClaimJoined
import GoSem.ClaimMapViews
import Derived.JoinedTies
import Derived.KernelRfl
namespace Go.Proofs.YtmlfmkebljdoiaaGreatDoor
/- THE CELL 'sum', in the pinned program and in every row, IS THE sha256 OF THE DUMP (.gsa) THAT YtmlfmkebljdoiaaGreatDoorProg.lean LOADS. Nothing in Lean hashes anything: it is a label: what it is worth is what the hold of that sum in a sandbox is worth. -/
noncomputable def Tryz.pinned : Pinned := { name := "ytmlfmkebljdoiaagreatdoor", sum := "608510911647e1780208f30de70810b3d9cb33372d1f12eb52f65f5984cffaac", checked := Tryz.checked }
namespace Rows
def none {H : Type} : Left H := { results := [], args := [] }

/- WHAT THE LISTED PACKAGE-LEVEL VARIABLES READ AS WHEN THE CALL BEGINS. Each datum BY PROGRAM (the guide's laid-datum.mjs) off the statement by which the dump's own 'gosem.cut.vars' lays the variable. In a bare row this is a premise. The card (YtmlfmkebljdoiaaGreatDoorCards.lean) ties it to the program's text. -/
def laid_arcade_alu_masks {H : Type} : DataW H := .agg [.lit (.int .u8 1), .lit (.int .u8 2), .lit (.int .u8 4), .lit (.int .u8 8), .lit (.int .u8 16), .lit (.int .u8 32), .lit (.int .u8 64), .lit (.int .u8 128)]
def laid_arcade_cpu_idle {H : Type} : DataW H := .agg [.lit (.int .i64 0), .lit (.int .i64 0), .lit (.int .i64 0)]

/-- 'arcadelaw3.CpuReckons': WHATEVER THE INPUT: true; the input reads as it did. -/
def cpuReckonsSpec : ChangeSpec := { name := "cpuReckons", fn := fun _ => fun
  | [d1, d2, d3] => { results := [.lit (.bool true)], args := [d1, d2, d3] }
  | _ => none }
def cpuReckonsRow : OpenClaim := { program := "ytmlfmkebljdoiaagreatdoor", sum := "608510911647e1780208f30de70810b3d9cb33372d1f12eb52f65f5984cffaac", func := "arcade/arcadelaw3.CpuReckons", spec := "cpuReckons", unfollowed := true, recurses := true, named := ["arcade/cpu.idle", "arcade/alu.masks"], apart := false, laid := [("arcade/alu.masks", laid_arcade_alu_masks), ("arcade/cpu.idle", laid_arcade_cpu_idle)] }
def CpuReckonsSaid : Prop := cpuReckonsRow.holds Tryz.pinned (OpenSpec.ofChange cpuReckonsSpec)

/-- ITS FALSE NEIGHBOUR: 'it returns false'. Refute it at one input. -/
def cpuReckonsWrong : ChangeSpec := { name := "cpuReckons", fn := fun _ => fun
  | [d1, d2, d3] => { results := [.lit (.bool false)], args := [d1, d2, d3] }
  | _ => none }
def CpuReckonsWrongFalsely : Prop := cpuReckonsRow.holds Tryz.pinned (OpenSpec.ofChange cpuReckonsWrong)

/-- 'arcadelaw3.CpuMoves': WHATEVER THE INPUT: true; the input reads as it did. -/
def cpuMovesSpec : ChangeSpec := { name := "cpuMoves", fn := fun _ => fun
  | [d1, d2] => { results := [.lit (.bool true)], args := [d1, d2] }
  | _ => none }
def cpuMovesRow : OpenClaim := { program := "ytmlfmkebljdoiaagreatdoor", sum := "608510911647e1780208f30de70810b3d9cb33372d1f12eb52f65f5984cffaac", func := "arcade/arcadelaw3.CpuMoves", spec := "cpuMoves", unfollowed := true, recurses := true, named := ["arcade/cpu.idle", "arcade/alu.masks"], apart := false, laid := [("arcade/alu.masks", laid_arcade_alu_masks), ("arcade/cpu.idle", laid_arcade_cpu_idle)] }
def CpuMovesSaid : Prop := cpuMovesRow.holds Tryz.pinned (OpenSpec.ofChange cpuMovesSpec)

/-- ITS FALSE NEIGHBOUR: 'it returns false'. Refute it at one input. -/
def cpuMovesWrong : ChangeSpec := { name := "cpuMoves", fn := fun _ => fun
  | [d1, d2] => { results := [.lit (.bool false)], args := [d1, d2] }
  | _ => none }
def CpuMovesWrongFalsely : Prop := cpuMovesRow.holds Tryz.pinned (OpenSpec.ofChange cpuMovesWrong)

/-- 'arcadelaw3.CpuStack': WHATEVER THE INPUT: true; the input reads as it did. -/
def cpuStackSpec : ChangeSpec := { name := "cpuStack", fn := fun _ => fun
  | [d] => { results := [.lit (.bool true)], args := [d] }
  | _ => none }
def cpuStackRow : OpenClaim := { program := "ytmlfmkebljdoiaagreatdoor", sum := "608510911647e1780208f30de70810b3d9cb33372d1f12eb52f65f5984cffaac", func := "arcade/arcadelaw3.CpuStack", spec := "cpuStack", unfollowed := true, recurses := true, named := ["arcade/cpu.idle", "arcade/alu.masks"], apart := false, laid := [("arcade/alu.masks", laid_arcade_alu_masks), ("arcade/cpu.idle", laid_arcade_cpu_idle)] }
def CpuStackSaid : Prop := cpuStackRow.holds Tryz.pinned (OpenSpec.ofChange cpuStackSpec)

/-- ITS FALSE NEIGHBOUR: 'it returns false'. Refute it at one input. -/
def cpuStackWrong : ChangeSpec := { name := "cpuStack", fn := fun _ => fun
  | [d] => { results := [.lit (.bool false)], args := [d] }
  | _ => none }
def CpuStackWrongFalsely : Prop := cpuStackRow.holds Tryz.pinned (OpenSpec.ofChange cpuStackWrong)

/-- 'arcadelaw3.CpuCalls': WHATEVER THE INPUT: true; the input reads as it did. -/
def cpuCallsSpec : ChangeSpec := { name := "cpuCalls", fn := fun _ => fun
  | [d1, d2, d3] => { results := [.lit (.bool true)], args := [d1, d2, d3] }
  | _ => none }
def cpuCallsRow : OpenClaim := { program := "ytmlfmkebljdoiaagreatdoor", sum := "608510911647e1780208f30de70810b3d9cb33372d1f12eb52f65f5984cffaac", func := "arcade/arcadelaw3.CpuCalls", spec := "cpuCalls", unfollowed := true, recurses := true, named := ["arcade/cpu.idle", "arcade/alu.masks"], apart := false, laid := [("arcade/alu.masks", laid_arcade_alu_masks), ("arcade/cpu.idle", laid_arcade_cpu_idle)] }
def CpuCallsSaid : Prop := cpuCallsRow.holds Tryz.pinned (OpenSpec.ofChange cpuCallsSpec)

/-- ITS FALSE NEIGHBOUR: 'it returns false'. Refute it at one input. -/
def cpuCallsWrong : ChangeSpec := { name := "cpuCalls", fn := fun _ => fun
  | [d1, d2, d3] => { results := [.lit (.bool false)], args := [d1, d2, d3] }
  | _ => none }
def CpuCallsWrongFalsely : Prop := cpuCallsRow.holds Tryz.pinned (OpenSpec.ofChange cpuCallsWrong)

/-- 'arcadelaw3.CpuJumps': WHATEVER THE INPUT: true; the input reads as it did. -/
def cpuJumpsSpec : ChangeSpec := { name := "cpuJumps", fn := fun _ => fun
  | [d1, d2, d3] => { results := [.lit (.bool true)], args := [d1, d2, d3] }
  | _ => none }
def cpuJumpsRow : OpenClaim := { program := "ytmlfmkebljdoiaagreatdoor", sum := "608510911647e1780208f30de70810b3d9cb33372d1f12eb52f65f5984cffaac", func := "arcade/arcadelaw3.CpuJumps", spec := "cpuJumps", unfollowed := true, recurses := true, named := ["arcade/cpu.idle", "arcade/alu.masks"], apart := false, laid := [("arcade/alu.masks", laid_arcade_alu_masks), ("arcade/cpu.idle", laid_arcade_cpu_idle)] }
def CpuJumpsSaid : Prop := cpuJumpsRow.holds Tryz.pinned (OpenSpec.ofChange cpuJumpsSpec)

/-- ITS FALSE NEIGHBOUR: 'it returns false'. Refute it at one input. -/
def cpuJumpsWrong : ChangeSpec := { name := "cpuJumps", fn := fun _ => fun
  | [d1, d2, d3] => { results := [.lit (.bool false)], args := [d1, d2, d3] }
  | _ => none }
def CpuJumpsWrongFalsely : Prop := cpuJumpsRow.holds Tryz.pinned (OpenSpec.ofChange cpuJumpsWrong)

/-- 'arcadelaw3.CpuWords': WHATEVER THE INPUT: true; the input reads as it did. -/
def cpuWordsSpec : ChangeSpec := { name := "cpuWords", fn := fun _ => fun
  | [d1, d2, d3] => { results := [.lit (.bool true)], args := [d1, d2, d3] }
  | _ => none }
def cpuWordsRow : OpenClaim := { program := "ytmlfmkebljdoiaagreatdoor", sum := "608510911647e1780208f30de70810b3d9cb33372d1f12eb52f65f5984cffaac", func := "arcade/arcadelaw3.CpuWords", spec := "cpuWords", unfollowed := true, recurses := true, named := ["arcade/cpu.idle", "arcade/alu.masks"], apart := false, laid := [("arcade/alu.masks", laid_arcade_alu_masks), ("arcade/cpu.idle", laid_arcade_cpu_idle)] }
def CpuWordsSaid : Prop := cpuWordsRow.holds Tryz.pinned (OpenSpec.ofChange cpuWordsSpec)

/-- ITS FALSE NEIGHBOUR: 'it returns false'. Refute it at one input. -/
def cpuWordsWrong : ChangeSpec := { name := "cpuWords", fn := fun _ => fun
  | [d1, d2, d3] => { results := [.lit (.bool false)], args := [d1, d2, d3] }
  | _ => none }
def CpuWordsWrongFalsely : Prop := cpuWordsRow.holds Tryz.pinned (OpenSpec.ofChange cpuWordsWrong)

/-- 'arcadelaw3.CpuBits': WHATEVER THE INPUT: true; the input reads as it did. -/
def cpuBitsSpec : ChangeSpec := { name := "cpuBits", fn := fun _ => fun
  | [d1, d2, d3] => { results := [.lit (.bool true)], args := [d1, d2, d3] }
  | _ => none }
def cpuBitsRow : OpenClaim := { program := "ytmlfmkebljdoiaagreatdoor", sum := "608510911647e1780208f30de70810b3d9cb33372d1f12eb52f65f5984cffaac", func := "arcade/arcadelaw3.CpuBits", spec := "cpuBits", unfollowed := true, recurses := true, named := ["arcade/cpu.idle", "arcade/alu.masks"], apart := false, laid := [("arcade/alu.masks", laid_arcade_alu_masks), ("arcade/cpu.idle", laid_arcade_cpu_idle)] }
def CpuBitsSaid : Prop := cpuBitsRow.holds Tryz.pinned (OpenSpec.ofChange cpuBitsSpec)

/-- ITS FALSE NEIGHBOUR: 'it returns false'. Refute it at one input. -/
def cpuBitsWrong : ChangeSpec := { name := "cpuBits", fn := fun _ => fun
  | [d1, d2, d3] => { results := [.lit (.bool false)], args := [d1, d2, d3] }
  | _ => none }
def CpuBitsWrongFalsely : Prop := cpuBitsRow.holds Tryz.pinned (OpenSpec.ofChange cpuBitsWrong)

/-- 'arcadelaw3.CpuRests': WHATEVER THE INPUT: true; the input reads as it did. -/
def cpuRestsSpec : ChangeSpec := { name := "cpuRests", fn := fun _ => fun
  | [d1, d2, d3, d4] => { results := [.lit (.bool true)], args := [d1, d2, d3, d4] }
  | _ => none }
def cpuRestsRow : OpenClaim := { program := "ytmlfmkebljdoiaagreatdoor", sum := "608510911647e1780208f30de70810b3d9cb33372d1f12eb52f65f5984cffaac", func := "arcade/arcadelaw3.CpuRests", spec := "cpuRests", unfollowed := true, recurses := true, named := ["arcade/cpu.idle", "arcade/alu.masks"], apart := false, laid := [("arcade/alu.masks", laid_arcade_alu_masks), ("arcade/cpu.idle", laid_arcade_cpu_idle)] }
def CpuRestsSaid : Prop := cpuRestsRow.holds Tryz.pinned (OpenSpec.ofChange cpuRestsSpec)

/-- ITS FALSE NEIGHBOUR: 'it returns false'. Refute it at one input. -/
def cpuRestsWrong : ChangeSpec := { name := "cpuRests", fn := fun _ => fun
  | [d1, d2, d3, d4] => { results := [.lit (.bool false)], args := [d1, d2, d3, d4] }
  | _ => none }
def CpuRestsWrongFalsely : Prop := cpuRestsRow.holds Tryz.pinned (OpenSpec.ofChange cpuRestsWrong)

/-- 'arcadelaw3.CpuHidden': WHATEVER THE INPUT: true; the input reads as it did. -/
def cpuHiddenSpec : ChangeSpec := { name := "cpuHidden", fn := fun _ => fun
  | [d1, d2, d3] => { results := [.lit (.bool true)], args := [d1, d2, d3] }
  | _ => none }
def cpuHiddenRow : OpenClaim := { program := "ytmlfmkebljdoiaagreatdoor", sum := "608510911647e1780208f30de70810b3d9cb33372d1f12eb52f65f5984cffaac", func := "arcade/arcadelaw3.CpuHidden", spec := "cpuHidden", unfollowed := true, recurses := true, named := ["arcade/cpu.idle", "arcade/alu.masks"], apart := false, laid := [("arcade/alu.masks", laid_arcade_alu_masks), ("arcade/cpu.idle", laid_arcade_cpu_idle)] }
def CpuHiddenSaid : Prop := cpuHiddenRow.holds Tryz.pinned (OpenSpec.ofChange cpuHiddenSpec)

/-- ITS FALSE NEIGHBOUR: 'it returns false'. Refute it at one input. -/
def cpuHiddenWrong : ChangeSpec := { name := "cpuHidden", fn := fun _ => fun
  | [d1, d2, d3] => { results := [.lit (.bool false)], args := [d1, d2, d3] }
  | _ => none }
def CpuHiddenWrongFalsely : Prop := cpuHiddenRow.holds Tryz.pinned (OpenSpec.ofChange cpuHiddenWrong)

/-- 'arcadelaw3.CpuLoads': WHATEVER THE INPUT: true; the input reads as it did. -/
def cpuLoadsSpec : ChangeSpec := { name := "cpuLoads", fn := fun _ => fun
  | [d1, d2, d3] => { results := [.lit (.bool true)], args := [d1, d2, d3] }
  | _ => none }
def cpuLoadsRow : OpenClaim := { program := "ytmlfmkebljdoiaagreatdoor", sum := "608510911647e1780208f30de70810b3d9cb33372d1f12eb52f65f5984cffaac", func := "arcade/arcadelaw3.CpuLoads", spec := "cpuLoads", unfollowed := true, recurses := true, named := ["arcade/cpu.idle", "arcade/alu.masks"], apart := false, laid := [("arcade/alu.masks", laid_arcade_alu_masks), ("arcade/cpu.idle", laid_arcade_cpu_idle)] }
def CpuLoadsSaid : Prop := cpuLoadsRow.holds Tryz.pinned (OpenSpec.ofChange cpuLoadsSpec)

/-- ITS FALSE NEIGHBOUR: 'it returns false'. Refute it at one input. -/
def cpuLoadsWrong : ChangeSpec := { name := "cpuLoads", fn := fun _ => fun
  | [d1, d2, d3] => { results := [.lit (.bool false)], args := [d1, d2, d3] }
  | _ => none }
def CpuLoadsWrongFalsely : Prop := cpuLoadsRow.holds Tryz.pinned (OpenSpec.ofChange cpuLoadsWrong)

/-- 'arcadelaw3.CpuCut': WHATEVER THE INPUT: true; the input reads as it did. -/
def cpuCutSpec : ChangeSpec := { name := "cpuCut", fn := fun _ => fun
  | [d1, d2, d3, d4] => { results := [.lit (.bool true)], args := [d1, d2, d3, d4] }
  | _ => none }
def cpuCutRow : OpenClaim := { program := "ytmlfmkebljdoiaagreatdoor", sum := "608510911647e1780208f30de70810b3d9cb33372d1f12eb52f65f5984cffaac", func := "arcade/arcadelaw3.CpuCut", spec := "cpuCut", unfollowed := true, recurses := true, named := ["arcade/cpu.idle", "arcade/alu.masks"], apart := false, laid := [("arcade/alu.masks", laid_arcade_alu_masks), ("arcade/cpu.idle", laid_arcade_cpu_idle)] }
def CpuCutSaid : Prop := cpuCutRow.holds Tryz.pinned (OpenSpec.ofChange cpuCutSpec)

/-- ITS FALSE NEIGHBOUR: 'it returns false'. Refute it at one input. -/
def cpuCutWrong : ChangeSpec := { name := "cpuCut", fn := fun _ => fun
  | [d1, d2, d3, d4] => { results := [.lit (.bool false)], args := [d1, d2, d3, d4] }
  | _ => none }
def CpuCutWrongFalsely : Prop := cpuCutRow.holds Tryz.pinned (OpenSpec.ofChange cpuCutWrong)

/-- 'arcadelaw3.CpuTimed': WHATEVER THE INPUT: true; the input reads as it did. -/
def cpuTimedSpec : ChangeSpec := { name := "cpuTimed", fn := fun _ => fun
  | [d1, d2, d3, d4, d5] => { results := [.lit (.bool true)], args := [d1, d2, d3, d4, d5] }
  | _ => none }
def cpuTimedRow : OpenClaim := { program := "ytmlfmkebljdoiaagreatdoor", sum := "608510911647e1780208f30de70810b3d9cb33372d1f12eb52f65f5984cffaac", func := "arcade/arcadelaw3.CpuTimed", spec := "cpuTimed", unfollowed := true, recurses := true, named := ["arcade/cpu.idle", "arcade/alu.masks"], apart := false, laid := [("arcade/alu.masks", laid_arcade_alu_masks), ("arcade/cpu.idle", laid_arcade_cpu_idle)] }
def CpuTimedSaid : Prop := cpuTimedRow.holds Tryz.pinned (OpenSpec.ofChange cpuTimedSpec)

/-- ITS FALSE NEIGHBOUR: 'it returns false'. Refute it at one input. -/
def cpuTimedWrong : ChangeSpec := { name := "cpuTimed", fn := fun _ => fun
  | [d1, d2, d3, d4, d5] => { results := [.lit (.bool false)], args := [d1, d2, d3, d4, d5] }
  | _ => none }
def CpuTimedWrongFalsely : Prop := cpuTimedRow.holds Tryz.pinned (OpenSpec.ofChange cpuTimedWrong)

/- THE SECOND FORM. 'bulk': how many values and letters a reading holds, each counted each time it is reached (what is shared counts as often as it is met; a slice's spare places count too). A statement '..UptoSaid' is the law's where the arguments, and the package variables that the reading takes, are together of bulk at most 1048576: NARROWER than '..Said'. Prove '..Said' where nothing that the law and all that it calls make is longer than what came in: it says more and counts as full. Else prove '..UptoSaid'. A law counts once. -/
mutual
def uptoBulk {H : Type} : DataW H → Nat
  | .lit (.string bytes) => bytes.length + 1
  | .lit _ => 1
  | .nil => 1
  | .ptr d => uptoBulk d + 1
  | .slice elems spare => uptoBulkAll elems + uptoBulkAll spare + 1
  | .agg parts => uptoBulkAll parts + 1
  | .iface _ d => uptoBulk d + 1
  | .map entries => uptoBulkEntries entries + 1
  | .held _ => 1
def uptoBulkAll {H : Type} : List (DataW H) → Nat
  | [] => 0
  | d :: r => uptoBulk d + uptoBulkAll r
def uptoBulkEntries {H : Type} : List (Lit × DataW H) → Nat
  | [] => 0
  | x :: r => uptoBulkEntry x + uptoBulkEntries r
def uptoBulkEntry {H : Type} : Lit × DataW H → Nat
  | (.string bytes, d) => bytes.length + uptoBulk d + 1
  | (_, d) => uptoBulk d + 1
 end
def uptoSmall : (H : Type) → List (DataW H) → Bool := fun _ ds => decide (uptoBulkAll ds ≤ 1048576)
def OpenSpec.upto (s : _root_.Go.ChangeSpec) : _root_.Go.OpenSpec := { _root_.Go.OpenSpec.ofChange s with cond := some uptoSmall }

/-- 'arcadelaw3.CpuReckons', WHERE WHAT IT READS IS OF BULK AT MOST 1048576: true; the input reads as it did. -/
def cpuReckonsUptoRow : OpenClaim := { program := "ytmlfmkebljdoiaagreatdoor", sum := "608510911647e1780208f30de70810b3d9cb33372d1f12eb52f65f5984cffaac", func := "arcade/arcadelaw3.CpuReckons", spec := "cpuReckons", unfollowed := true, recurses := true, named := ["arcade/cpu.idle", "arcade/alu.masks"], apart := false, laid := [("arcade/alu.masks", laid_arcade_alu_masks), ("arcade/cpu.idle", laid_arcade_cpu_idle)], narrowed := true }
def CpuReckonsUptoSaid : Prop := cpuReckonsUptoRow.holds Tryz.pinned (OpenSpec.upto cpuReckonsSpec)

/-- 'arcadelaw3.CpuMoves', WHERE WHAT IT READS IS OF BULK AT MOST 1048576: true; the input reads as it did. -/
def cpuMovesUptoRow : OpenClaim := { program := "ytmlfmkebljdoiaagreatdoor", sum := "608510911647e1780208f30de70810b3d9cb33372d1f12eb52f65f5984cffaac", func := "arcade/arcadelaw3.CpuMoves", spec := "cpuMoves", unfollowed := true, recurses := true, named := ["arcade/cpu.idle", "arcade/alu.masks"], apart := false, laid := [("arcade/alu.masks", laid_arcade_alu_masks), ("arcade/cpu.idle", laid_arcade_cpu_idle)], narrowed := true }
def CpuMovesUptoSaid : Prop := cpuMovesUptoRow.holds Tryz.pinned (OpenSpec.upto cpuMovesSpec)

/-- 'arcadelaw3.CpuStack', WHERE WHAT IT READS IS OF BULK AT MOST 1048576: true; the input reads as it did. -/
def cpuStackUptoRow : OpenClaim := { program := "ytmlfmkebljdoiaagreatdoor", sum := "608510911647e1780208f30de70810b3d9cb33372d1f12eb52f65f5984cffaac", func := "arcade/arcadelaw3.CpuStack", spec := "cpuStack", unfollowed := true, recurses := true, named := ["arcade/cpu.idle", "arcade/alu.masks"], apart := false, laid := [("arcade/alu.masks", laid_arcade_alu_masks), ("arcade/cpu.idle", laid_arcade_cpu_idle)], narrowed := true }
def CpuStackUptoSaid : Prop := cpuStackUptoRow.holds Tryz.pinned (OpenSpec.upto cpuStackSpec)

/-- 'arcadelaw3.CpuCalls', WHERE WHAT IT READS IS OF BULK AT MOST 1048576: true; the input reads as it did. -/
def cpuCallsUptoRow : OpenClaim := { program := "ytmlfmkebljdoiaagreatdoor", sum := "608510911647e1780208f30de70810b3d9cb33372d1f12eb52f65f5984cffaac", func := "arcade/arcadelaw3.CpuCalls", spec := "cpuCalls", unfollowed := true, recurses := true, named := ["arcade/cpu.idle", "arcade/alu.masks"], apart := false, laid := [("arcade/alu.masks", laid_arcade_alu_masks), ("arcade/cpu.idle", laid_arcade_cpu_idle)], narrowed := true }
def CpuCallsUptoSaid : Prop := cpuCallsUptoRow.holds Tryz.pinned (OpenSpec.upto cpuCallsSpec)

/-- 'arcadelaw3.CpuJumps', WHERE WHAT IT READS IS OF BULK AT MOST 1048576: true; the input reads as it did. -/
def cpuJumpsUptoRow : OpenClaim := { program := "ytmlfmkebljdoiaagreatdoor", sum := "608510911647e1780208f30de70810b3d9cb33372d1f12eb52f65f5984cffaac", func := "arcade/arcadelaw3.CpuJumps", spec := "cpuJumps", unfollowed := true, recurses := true, named := ["arcade/cpu.idle", "arcade/alu.masks"], apart := false, laid := [("arcade/alu.masks", laid_arcade_alu_masks), ("arcade/cpu.idle", laid_arcade_cpu_idle)], narrowed := true }
def CpuJumpsUptoSaid : Prop := cpuJumpsUptoRow.holds Tryz.pinned (OpenSpec.upto cpuJumpsSpec)

/-- 'arcadelaw3.CpuWords', WHERE WHAT IT READS IS OF BULK AT MOST 1048576: true; the input reads as it did. -/
def cpuWordsUptoRow : OpenClaim := { program := "ytmlfmkebljdoiaagreatdoor", sum := "608510911647e1780208f30de70810b3d9cb33372d1f12eb52f65f5984cffaac", func := "arcade/arcadelaw3.CpuWords", spec := "cpuWords", unfollowed := true, recurses := true, named := ["arcade/cpu.idle", "arcade/alu.masks"], apart := false, laid := [("arcade/alu.masks", laid_arcade_alu_masks), ("arcade/cpu.idle", laid_arcade_cpu_idle)], narrowed := true }
def CpuWordsUptoSaid : Prop := cpuWordsUptoRow.holds Tryz.pinned (OpenSpec.upto cpuWordsSpec)

/-- 'arcadelaw3.CpuBits', WHERE WHAT IT READS IS OF BULK AT MOST 1048576: true; the input reads as it did. -/
def cpuBitsUptoRow : OpenClaim := { program := "ytmlfmkebljdoiaagreatdoor", sum := "608510911647e1780208f30de70810b3d9cb33372d1f12eb52f65f5984cffaac", func := "arcade/arcadelaw3.CpuBits", spec := "cpuBits", unfollowed := true, recurses := true, named := ["arcade/cpu.idle", "arcade/alu.masks"], apart := false, laid := [("arcade/alu.masks", laid_arcade_alu_masks), ("arcade/cpu.idle", laid_arcade_cpu_idle)], narrowed := true }
def CpuBitsUptoSaid : Prop := cpuBitsUptoRow.holds Tryz.pinned (OpenSpec.upto cpuBitsSpec)

/-- 'arcadelaw3.CpuRests', WHERE WHAT IT READS IS OF BULK AT MOST 1048576: true; the input reads as it did. -/
def cpuRestsUptoRow : OpenClaim := { program := "ytmlfmkebljdoiaagreatdoor", sum := "608510911647e1780208f30de70810b3d9cb33372d1f12eb52f65f5984cffaac", func := "arcade/arcadelaw3.CpuRests", spec := "cpuRests", unfollowed := true, recurses := true, named := ["arcade/cpu.idle", "arcade/alu.masks"], apart := false, laid := [("arcade/alu.masks", laid_arcade_alu_masks), ("arcade/cpu.idle", laid_arcade_cpu_idle)], narrowed := true }
def CpuRestsUptoSaid : Prop := cpuRestsUptoRow.holds Tryz.pinned (OpenSpec.upto cpuRestsSpec)

/-- 'arcadelaw3.CpuHidden', WHERE WHAT IT READS IS OF BULK AT MOST 1048576: true; the input reads as it did. -/
def cpuHiddenUptoRow : OpenClaim := { program := "ytmlfmkebljdoiaagreatdoor", sum := "608510911647e1780208f30de70810b3d9cb33372d1f12eb52f65f5984cffaac", func := "arcade/arcadelaw3.CpuHidden", spec := "cpuHidden", unfollowed := true, recurses := true, named := ["arcade/cpu.idle", "arcade/alu.masks"], apart := false, laid := [("arcade/alu.masks", laid_arcade_alu_masks), ("arcade/cpu.idle", laid_arcade_cpu_idle)], narrowed := true }
def CpuHiddenUptoSaid : Prop := cpuHiddenUptoRow.holds Tryz.pinned (OpenSpec.upto cpuHiddenSpec)

/-- 'arcadelaw3.CpuLoads', WHERE WHAT IT READS IS OF BULK AT MOST 1048576: true; the input reads as it did. -/
def cpuLoadsUptoRow : OpenClaim := { program := "ytmlfmkebljdoiaagreatdoor", sum := "608510911647e1780208f30de70810b3d9cb33372d1f12eb52f65f5984cffaac", func := "arcade/arcadelaw3.CpuLoads", spec := "cpuLoads", unfollowed := true, recurses := true, named := ["arcade/cpu.idle", "arcade/alu.masks"], apart := false, laid := [("arcade/alu.masks", laid_arcade_alu_masks), ("arcade/cpu.idle", laid_arcade_cpu_idle)], narrowed := true }
def CpuLoadsUptoSaid : Prop := cpuLoadsUptoRow.holds Tryz.pinned (OpenSpec.upto cpuLoadsSpec)

/-- 'arcadelaw3.CpuCut', WHERE WHAT IT READS IS OF BULK AT MOST 1048576: true; the input reads as it did. -/
def cpuCutUptoRow : OpenClaim := { program := "ytmlfmkebljdoiaagreatdoor", sum := "608510911647e1780208f30de70810b3d9cb33372d1f12eb52f65f5984cffaac", func := "arcade/arcadelaw3.CpuCut", spec := "cpuCut", unfollowed := true, recurses := true, named := ["arcade/cpu.idle", "arcade/alu.masks"], apart := false, laid := [("arcade/alu.masks", laid_arcade_alu_masks), ("arcade/cpu.idle", laid_arcade_cpu_idle)], narrowed := true }
def CpuCutUptoSaid : Prop := cpuCutUptoRow.holds Tryz.pinned (OpenSpec.upto cpuCutSpec)

/-- 'arcadelaw3.CpuTimed', WHERE WHAT IT READS IS OF BULK AT MOST 1048576: true; the input reads as it did. -/
def cpuTimedUptoRow : OpenClaim := { program := "ytmlfmkebljdoiaagreatdoor", sum := "608510911647e1780208f30de70810b3d9cb33372d1f12eb52f65f5984cffaac", func := "arcade/arcadelaw3.CpuTimed", spec := "cpuTimed", unfollowed := true, recurses := true, named := ["arcade/cpu.idle", "arcade/alu.masks"], apart := false, laid := [("arcade/alu.masks", laid_arcade_alu_masks), ("arcade/cpu.idle", laid_arcade_cpu_idle)], narrowed := true }
def CpuTimedUptoSaid : Prop := cpuTimedUptoRow.holds Tryz.pinned (OpenSpec.upto cpuTimedSpec)

end Rows
end Go.Proofs.YtmlfmkebljdoiaaGreatDoor
