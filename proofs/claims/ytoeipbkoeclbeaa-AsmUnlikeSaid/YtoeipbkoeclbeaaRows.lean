/-
  No cell of these rows narrows 'for every input' (looked for: loops, veiled, ifaces, maps, wideKeys, modest, calm, conditions, laid).
  DERIVED. THE GIVEN ROWS OF THIS SEAT. 5 by the template 'for every input the law returns true; each argument reads behind the call as it read before'; 0 by the template 'total and deterministic' (their statements: YtoeipbkoeclbeaaTotals.lean).
  GIVEN WITH THE SEED: the statements are not yours to turn. If you find one false, say at which input.
  Laid BY PROGRAM, IN A SANDBOX (cutbox-rows.mjs): the forced cells as the released guide's own fill.sh prints them over the translation 1ce792e8b76d3a45… (all of the seat's roots in one cut). By AI agents, Wed Nov 11 2026. No macro, syntax, notation, axiom, sorry.
-/
import Derived.Test.YtoeipbkoeclbeaaChecked
import GoSem.Claim
import GoSem.ClaimJoined
import GoSem.ClaimMapViews
import Derived.JoinedTies
import Derived.KernelRfl
namespace Go.Proofs.Ytoeipbkoeclbeaa
/- THE CELL 'sum', in the pinned program and in every row, IS THE sha256 OF THE DUMP (.gsa) THAT YtoeipbkoeclbeaaProg.lean LOADS. Nothing in Lean hashes anything: it is a label: what it is worth is what the hold of that sum in a sandbox is worth. -/
noncomputable def Try.pinned : Pinned := { name := "ytoeipbkoeclbeaa", sum := "1ce792e8b76d3a45c1b5097e1e510380f7d777c8b438fb0c7f20407633e57630", checked := Try.checked }
namespace Rows
def none {H : Type} : Left H := { results := [], args := [] }

/-- 'arcadelaw2.AsmNames': WHATEVER THE INPUT: true; the input reads as it did. -/
def asmNamesSpec : ChangeSpec := { name := "asmNames", fn := fun _ => fun
  | [] => { results := [.lit (.bool true)], args := [] }
  | _ => none }
def asmNamesRow : OpenClaim := { program := "ytoeipbkoeclbeaa", sum := "1ce792e8b76d3a45c1b5097e1e510380f7d777c8b438fb0c7f20407633e57630", func := "arcade/arcadelaw2.AsmNames", spec := "asmNames", apart := false }
def AsmNamesSaid : Prop := asmNamesRow.holds Try.pinned (OpenSpec.ofChange asmNamesSpec)

/-- ITS FALSE NEIGHBOUR: 'it returns false'. Refute it at one input. -/
def asmNamesWrong : ChangeSpec := { name := "asmNames", fn := fun _ => fun
  | [] => { results := [.lit (.bool false)], args := [] }
  | _ => none }
def AsmNamesWrongFalsely : Prop := asmNamesRow.holds Try.pinned (OpenSpec.ofChange asmNamesWrong)

/-- 'arcadelaw17.DebugNames': WHATEVER THE INPUT: true; the input reads as it did. -/
def debugNamesSpec : ChangeSpec := { name := "debugNames", fn := fun _ => fun
  | [] => { results := [.lit (.bool true)], args := [] }
  | _ => none }
def debugNamesRow : OpenClaim := { program := "ytoeipbkoeclbeaa", sum := "1ce792e8b76d3a45c1b5097e1e510380f7d777c8b438fb0c7f20407633e57630", func := "arcade/arcadelaw17.DebugNames", spec := "debugNames", apart := false }
def DebugNamesSaid : Prop := debugNamesRow.holds Try.pinned (OpenSpec.ofChange debugNamesSpec)

/-- ITS FALSE NEIGHBOUR: 'it returns false'. Refute it at one input. -/
def debugNamesWrong : ChangeSpec := { name := "debugNames", fn := fun _ => fun
  | [] => { results := [.lit (.bool false)], args := [] }
  | _ => none }
def DebugNamesWrongFalsely : Prop := debugNamesRow.holds Try.pinned (OpenSpec.ofChange debugNamesWrong)

/-- 'arcadelaw18.LangNames': WHATEVER THE INPUT: true; the input reads as it did. -/
def langNamesSpec : ChangeSpec := { name := "langNames", fn := fun _ => fun
  | [] => { results := [.lit (.bool true)], args := [] }
  | _ => none }
def langNamesRow : OpenClaim := { program := "ytoeipbkoeclbeaa", sum := "1ce792e8b76d3a45c1b5097e1e510380f7d777c8b438fb0c7f20407633e57630", func := "arcade/arcadelaw18.LangNames", spec := "langNames", apart := false }
def LangNamesSaid : Prop := langNamesRow.holds Try.pinned (OpenSpec.ofChange langNamesSpec)

/-- ITS FALSE NEIGHBOUR: 'it returns false'. Refute it at one input. -/
def langNamesWrong : ChangeSpec := { name := "langNames", fn := fun _ => fun
  | [] => { results := [.lit (.bool false)], args := [] }
  | _ => none }
def LangNamesWrongFalsely : Prop := langNamesRow.holds Try.pinned (OpenSpec.ofChange langNamesWrong)

/-- 'arcadelaw3.CpuNames': WHATEVER THE INPUT: true; the input reads as it did. -/
def cpuNamesSpec : ChangeSpec := { name := "cpuNames", fn := fun _ => fun
  | [] => { results := [.lit (.bool true)], args := [] }
  | _ => none }
def cpuNamesRow : OpenClaim := { program := "ytoeipbkoeclbeaa", sum := "1ce792e8b76d3a45c1b5097e1e510380f7d777c8b438fb0c7f20407633e57630", func := "arcade/arcadelaw3.CpuNames", spec := "cpuNames", apart := false }
def CpuNamesSaid : Prop := cpuNamesRow.holds Try.pinned (OpenSpec.ofChange cpuNamesSpec)

/-- ITS FALSE NEIGHBOUR: 'it returns false'. Refute it at one input. -/
def cpuNamesWrong : ChangeSpec := { name := "cpuNames", fn := fun _ => fun
  | [] => { results := [.lit (.bool false)], args := [] }
  | _ => none }
def CpuNamesWrongFalsely : Prop := cpuNamesRow.holds Try.pinned (OpenSpec.ofChange cpuNamesWrong)

/-- 'arcadelaw2.AsmUnlike': WHATEVER THE INPUT: true; the input reads as it did. -/
def asmUnlikeSpec : ChangeSpec := { name := "asmUnlike", fn := fun _ => fun
  | [] => { results := [.lit (.bool true)], args := [] }
  | _ => none }
def asmUnlikeRow : OpenClaim := { program := "ytoeipbkoeclbeaa", sum := "1ce792e8b76d3a45c1b5097e1e510380f7d777c8b438fb0c7f20407633e57630", func := "arcade/arcadelaw2.AsmUnlike", spec := "asmUnlike", apart := false }
def AsmUnlikeSaid : Prop := asmUnlikeRow.holds Try.pinned (OpenSpec.ofChange asmUnlikeSpec)

/-- ITS FALSE NEIGHBOUR: 'it returns false'. Refute it at one input. -/
def asmUnlikeWrong : ChangeSpec := { name := "asmUnlike", fn := fun _ => fun
  | [] => { results := [.lit (.bool false)], args := [] }
  | _ => none }
def AsmUnlikeWrongFalsely : Prop := asmUnlikeRow.holds Try.pinned (OpenSpec.ofChange asmUnlikeWrong)

/- THE SECOND FORM. 'bulk': how many values and letters a reading holds, each counted each time it is reached (what is shared counts as often as it is met; a slice's spare places count too). A statement '..UptoSaid' is the law's where the arguments, and the package variables that the reading takes, are together of bulk at most 1048576: NARROWER than '..Said'. Prove '..Said' where nothing that the law and all that it calls make is longer than what came in: it says more and counts as full. Else prove '..UptoSaid'. A law counts once. -/
mutual
def uptoBulk {H : Type} : DataW H → Nat
  | .lit (.string bytes) => bytes.length + 1
  | .lit _ => 1
  | .nil => 1
  | .ptr d => uptoBulk d + 1
  | .slice elems spare => uptoBulkAll elems + uptoBulkAll spare + 1
  | .agg parts => uptoBulkAll parts + 1
  | .iface _ d => uptoBulk d + 1
  | .map entries => uptoBulkEntries entries + 1
  | .held _ => 1
def uptoBulkAll {H : Type} : List (DataW H) → Nat
  | [] => 0
  | d :: r => uptoBulk d + uptoBulkAll r
def uptoBulkEntries {H : Type} : List (Lit × DataW H) → Nat
  | [] => 0
  | x :: r => uptoBulkEntry x + uptoBulkEntries r
def uptoBulkEntry {H : Type} : Lit × DataW H → Nat
  | (.string bytes, d) => bytes.length + uptoBulk d + 1
  | (_, d) => uptoBulk d + 1
 end
def uptoSmall : (H : Type) → List (DataW H) → Bool := fun _ ds => decide (uptoBulkAll ds ≤ 1048576)
def OpenSpec.upto (s : _root_.Go.ChangeSpec) : _root_.Go.OpenSpec := { _root_.Go.OpenSpec.ofChange s with cond := some uptoSmall }

/-- 'arcadelaw2.AsmNames', WHERE WHAT IT READS IS OF BULK AT MOST 1048576: true; the input reads as it did. -/
def asmNamesUptoRow : OpenClaim := { program := "ytoeipbkoeclbeaa", sum := "1ce792e8b76d3a45c1b5097e1e510380f7d777c8b438fb0c7f20407633e57630", func := "arcade/arcadelaw2.AsmNames", spec := "asmNames", apart := false, narrowed := true }
def AsmNamesUptoSaid : Prop := asmNamesUptoRow.holds Try.pinned (OpenSpec.upto asmNamesSpec)

/-- 'arcadelaw17.DebugNames', WHERE WHAT IT READS IS OF BULK AT MOST 1048576: true; the input reads as it did. -/
def debugNamesUptoRow : OpenClaim := { program := "ytoeipbkoeclbeaa", sum := "1ce792e8b76d3a45c1b5097e1e510380f7d777c8b438fb0c7f20407633e57630", func := "arcade/arcadelaw17.DebugNames", spec := "debugNames", apart := false, narrowed := true }
def DebugNamesUptoSaid : Prop := debugNamesUptoRow.holds Try.pinned (OpenSpec.upto debugNamesSpec)

/-- 'arcadelaw18.LangNames', WHERE WHAT IT READS IS OF BULK AT MOST 1048576: true; the input reads as it did. -/
def langNamesUptoRow : OpenClaim := { program := "ytoeipbkoeclbeaa", sum := "1ce792e8b76d3a45c1b5097e1e510380f7d777c8b438fb0c7f20407633e57630", func := "arcade/arcadelaw18.LangNames", spec := "langNames", apart := false, narrowed := true }
def LangNamesUptoSaid : Prop := langNamesUptoRow.holds Try.pinned (OpenSpec.upto langNamesSpec)

/-- 'arcadelaw3.CpuNames', WHERE WHAT IT READS IS OF BULK AT MOST 1048576: true; the input reads as it did. -/
def cpuNamesUptoRow : OpenClaim := { program := "ytoeipbkoeclbeaa", sum := "1ce792e8b76d3a45c1b5097e1e510380f7d777c8b438fb0c7f20407633e57630", func := "arcade/arcadelaw3.CpuNames", spec := "cpuNames", apart := false, narrowed := true }
def CpuNamesUptoSaid : Prop := cpuNamesUptoRow.holds Try.pinned (OpenSpec.upto cpuNamesSpec)

/-- 'arcadelaw2.AsmUnlike', WHERE WHAT IT READS IS OF BULK AT MOST 1048576: true; the input reads as it did. -/
def asmUnlikeUptoRow : OpenClaim := { program := "ytoeipbkoeclbeaa", sum := "1ce792e8b76d3a45c1b5097e1e510380f7d777c8b438fb0c7f20407633e57630", func := "arcade/arcadelaw2.AsmUnlike", spec := "asmUnlike", apart := false, narrowed := true }
def AsmUnlikeUptoSaid : Prop := asmUnlikeUptoRow.holds Try.pinned (OpenSpec.upto asmUnlikeSpec)

end Rows
end Go.Proofs.Ytoeipbkoeclbeaa
