/-
  DERIVED. GIVEN WITH THE SEED: THE CARDS: each row of YtmlfmkebljdoiaaGreatDoorRows.lean that lists a variable, with what it lists TIED to the program's text (the seventh form; the later family's looks); each row that meets fmt, with fmt's text TOLD by the authors' own Lean function (tested against real Go, not proved from fmt's source: count such statements apart). THE CARD IS WHAT COUNTS. Prove the row's statement (the work); the ties are given (YtmlfmkebljdoiaaGreatDoorTie.lean); close each card by the builder's one call (the guide's Derived/Test/ToyasCard.lean, 'card_holds'). Laid BY PROGRAM, IN A SANDBOX (cutbox-door.mjs). By AI agents, Wed Nov 11 2026. No macro, syntax, notation, axiom, sorry.
-/
import Derived.Test.YtmlfmkebljdoiaaGreatDoorRows
import GoSem.ClaimSeven
namespace Go.Proofs.YtmlfmkebljdoiaaGreatDoor
namespace Rows

/-- THE TIED CARD OF 'arcadelaw3.CpuReckons'. -/
def cpuReckonsCard : Claim7 := { stood := { row := cpuReckonsRow, standIns := [], harness := (true, "6bef58db6f3d14ce9b1325656d6e3d3ce008d771373473d32b44aa235b03425f"), looks := false }, kinds := [], alts := [], laidByText := true, laidKinds := [.data, .data], laidTests := true, laidLooks := .later }
def CpuReckonsCardSaid : Prop := Claim7.holds Tryz.pinned (.plain (OpenSpec.ofChange cpuReckonsSpec)) cpuReckonsCard

/-- THE TIED CARD OF 'arcadelaw3.CpuMoves'. -/
def cpuMovesCard : Claim7 := { stood := { row := cpuMovesRow, standIns := [], harness := (true, "6bef58db6f3d14ce9b1325656d6e3d3ce008d771373473d32b44aa235b03425f"), looks := false }, kinds := [], alts := [], laidByText := true, laidKinds := [.data, .data], laidTests := true, laidLooks := .later }
def CpuMovesCardSaid : Prop := Claim7.holds Tryz.pinned (.plain (OpenSpec.ofChange cpuMovesSpec)) cpuMovesCard

/-- THE TIED CARD OF 'arcadelaw3.CpuStack'. -/
def cpuStackCard : Claim7 := { stood := { row := cpuStackRow, standIns := [], harness := (true, "6bef58db6f3d14ce9b1325656d6e3d3ce008d771373473d32b44aa235b03425f"), looks := false }, kinds := [], alts := [], laidByText := true, laidKinds := [.data, .data], laidTests := true, laidLooks := .later }
def CpuStackCardSaid : Prop := Claim7.holds Tryz.pinned (.plain (OpenSpec.ofChange cpuStackSpec)) cpuStackCard

/-- THE TIED CARD OF 'arcadelaw3.CpuCalls'. -/
def cpuCallsCard : Claim7 := { stood := { row := cpuCallsRow, standIns := [], harness := (true, "6bef58db6f3d14ce9b1325656d6e3d3ce008d771373473d32b44aa235b03425f"), looks := false }, kinds := [], alts := [], laidByText := true, laidKinds := [.data, .data], laidTests := true, laidLooks := .later }
def CpuCallsCardSaid : Prop := Claim7.holds Tryz.pinned (.plain (OpenSpec.ofChange cpuCallsSpec)) cpuCallsCard

/-- THE TIED CARD OF 'arcadelaw3.CpuJumps'. -/
def cpuJumpsCard : Claim7 := { stood := { row := cpuJumpsRow, standIns := [], harness := (true, "6bef58db6f3d14ce9b1325656d6e3d3ce008d771373473d32b44aa235b03425f"), looks := false }, kinds := [], alts := [], laidByText := true, laidKinds := [.data, .data], laidTests := true, laidLooks := .later }
def CpuJumpsCardSaid : Prop := Claim7.holds Tryz.pinned (.plain (OpenSpec.ofChange cpuJumpsSpec)) cpuJumpsCard

/-- THE TIED CARD OF 'arcadelaw3.CpuWords'. -/
def cpuWordsCard : Claim7 := { stood := { row := cpuWordsRow, standIns := [], harness := (true, "6bef58db6f3d14ce9b1325656d6e3d3ce008d771373473d32b44aa235b03425f"), looks := false }, kinds := [], alts := [], laidByText := true, laidKinds := [.data, .data], laidTests := true, laidLooks := .later }
def CpuWordsCardSaid : Prop := Claim7.holds Tryz.pinned (.plain (OpenSpec.ofChange cpuWordsSpec)) cpuWordsCard

/-- THE TIED CARD OF 'arcadelaw3.CpuBits'. -/
def cpuBitsCard : Claim7 := { stood := { row := cpuBitsRow, standIns := [], harness := (true, "6bef58db6f3d14ce9b1325656d6e3d3ce008d771373473d32b44aa235b03425f"), looks := false }, kinds := [], alts := [], laidByText := true, laidKinds := [.data, .data], laidTests := true, laidLooks := .later }
def CpuBitsCardSaid : Prop := Claim7.holds Tryz.pinned (.plain (OpenSpec.ofChange cpuBitsSpec)) cpuBitsCard

/-- THE TIED CARD OF 'arcadelaw3.CpuRests'. -/
def cpuRestsCard : Claim7 := { stood := { row := cpuRestsRow, standIns := [], harness := (true, "6bef58db6f3d14ce9b1325656d6e3d3ce008d771373473d32b44aa235b03425f"), looks := false }, kinds := [], alts := [], laidByText := true, laidKinds := [.data, .data], laidTests := true, laidLooks := .later }
def CpuRestsCardSaid : Prop := Claim7.holds Tryz.pinned (.plain (OpenSpec.ofChange cpuRestsSpec)) cpuRestsCard

/-- THE TIED CARD OF 'arcadelaw3.CpuHidden'. -/
def cpuHiddenCard : Claim7 := { stood := { row := cpuHiddenRow, standIns := [], harness := (true, "6bef58db6f3d14ce9b1325656d6e3d3ce008d771373473d32b44aa235b03425f"), looks := false }, kinds := [], alts := [], laidByText := true, laidKinds := [.data, .data], laidTests := true, laidLooks := .later }
def CpuHiddenCardSaid : Prop := Claim7.holds Tryz.pinned (.plain (OpenSpec.ofChange cpuHiddenSpec)) cpuHiddenCard

/-- THE TIED CARD OF 'arcadelaw3.CpuLoads'. -/
def cpuLoadsCard : Claim7 := { stood := { row := cpuLoadsRow, standIns := [], harness := (true, "6bef58db6f3d14ce9b1325656d6e3d3ce008d771373473d32b44aa235b03425f"), looks := false }, kinds := [], alts := [], laidByText := true, laidKinds := [.data, .data], laidTests := true, laidLooks := .later }
def CpuLoadsCardSaid : Prop := Claim7.holds Tryz.pinned (.plain (OpenSpec.ofChange cpuLoadsSpec)) cpuLoadsCard

/-- THE TIED CARD OF 'arcadelaw3.CpuCut'. -/
def cpuCutCard : Claim7 := { stood := { row := cpuCutRow, standIns := [], harness := (true, "6bef58db6f3d14ce9b1325656d6e3d3ce008d771373473d32b44aa235b03425f"), looks := false }, kinds := [], alts := [], laidByText := true, laidKinds := [.data, .data], laidTests := true, laidLooks := .later }
def CpuCutCardSaid : Prop := Claim7.holds Tryz.pinned (.plain (OpenSpec.ofChange cpuCutSpec)) cpuCutCard

/-- THE TIED CARD OF 'arcadelaw3.CpuTimed'. -/
def cpuTimedCard : Claim7 := { stood := { row := cpuTimedRow, standIns := [], harness := (true, "6bef58db6f3d14ce9b1325656d6e3d3ce008d771373473d32b44aa235b03425f"), looks := false }, kinds := [], alts := [], laidByText := true, laidKinds := [.data, .data], laidTests := true, laidLooks := .later }
def CpuTimedCardSaid : Prop := Claim7.holds Tryz.pinned (.plain (OpenSpec.ofChange cpuTimedSpec)) cpuTimedCard

/-- THE SECOND FORM's CARD OF 'arcadelaw3.CpuReckons'. -/
def cpuReckonsUptoCard : Claim7 := { stood := { row := cpuReckonsUptoRow, standIns := [], harness := (true, "6bef58db6f3d14ce9b1325656d6e3d3ce008d771373473d32b44aa235b03425f"), looks := false }, kinds := [], alts := [], laidByText := true, laidKinds := [.data, .data], laidTests := true, laidLooks := .later }
def CpuReckonsUptoCardSaid : Prop := Claim7.holds Tryz.pinned (.plain (OpenSpec.upto cpuReckonsSpec)) cpuReckonsUptoCard

/-- THE SECOND FORM's CARD OF 'arcadelaw3.CpuMoves'. -/
def cpuMovesUptoCard : Claim7 := { stood := { row := cpuMovesUptoRow, standIns := [], harness := (true, "6bef58db6f3d14ce9b1325656d6e3d3ce008d771373473d32b44aa235b03425f"), looks := false }, kinds := [], alts := [], laidByText := true, laidKinds := [.data, .data], laidTests := true, laidLooks := .later }
def CpuMovesUptoCardSaid : Prop := Claim7.holds Tryz.pinned (.plain (OpenSpec.upto cpuMovesSpec)) cpuMovesUptoCard

/-- THE SECOND FORM's CARD OF 'arcadelaw3.CpuStack'. -/
def cpuStackUptoCard : Claim7 := { stood := { row := cpuStackUptoRow, standIns := [], harness := (true, "6bef58db6f3d14ce9b1325656d6e3d3ce008d771373473d32b44aa235b03425f"), looks := false }, kinds := [], alts := [], laidByText := true, laidKinds := [.data, .data], laidTests := true, laidLooks := .later }
def CpuStackUptoCardSaid : Prop := Claim7.holds Tryz.pinned (.plain (OpenSpec.upto cpuStackSpec)) cpuStackUptoCard

/-- THE SECOND FORM's CARD OF 'arcadelaw3.CpuCalls'. -/
def cpuCallsUptoCard : Claim7 := { stood := { row := cpuCallsUptoRow, standIns := [], harness := (true, "6bef58db6f3d14ce9b1325656d6e3d3ce008d771373473d32b44aa235b03425f"), looks := false }, kinds := [], alts := [], laidByText := true, laidKinds := [.data, .data], laidTests := true, laidLooks := .later }
def CpuCallsUptoCardSaid : Prop := Claim7.holds Tryz.pinned (.plain (OpenSpec.upto cpuCallsSpec)) cpuCallsUptoCard

/-- THE SECOND FORM's CARD OF 'arcadelaw3.CpuJumps'. -/
def cpuJumpsUptoCard : Claim7 := { stood := { row := cpuJumpsUptoRow, standIns := [], harness := (true, "6bef58db6f3d14ce9b1325656d6e3d3ce008d771373473d32b44aa235b03425f"), looks := false }, kinds := [], alts := [], laidByText := true, laidKinds := [.data, .data], laidTests := true, laidLooks := .later }
def CpuJumpsUptoCardSaid : Prop := Claim7.holds Tryz.pinned (.plain (OpenSpec.upto cpuJumpsSpec)) cpuJumpsUptoCard

/-- THE SECOND FORM's CARD OF 'arcadelaw3.CpuWords'. -/
def cpuWordsUptoCard : Claim7 := { stood := { row := cpuWordsUptoRow, standIns := [], harness := (true, "6bef58db6f3d14ce9b1325656d6e3d3ce008d771373473d32b44aa235b03425f"), looks := false }, kinds := [], alts := [], laidByText := true, laidKinds := [.data, .data], laidTests := true, laidLooks := .later }
def CpuWordsUptoCardSaid : Prop := Claim7.holds Tryz.pinned (.plain (OpenSpec.upto cpuWordsSpec)) cpuWordsUptoCard

/-- THE SECOND FORM's CARD OF 'arcadelaw3.CpuBits'. -/
def cpuBitsUptoCard : Claim7 := { stood := { row := cpuBitsUptoRow, standIns := [], harness := (true, "6bef58db6f3d14ce9b1325656d6e3d3ce008d771373473d32b44aa235b03425f"), looks := false }, kinds := [], alts := [], laidByText := true, laidKinds := [.data, .data], laidTests := true, laidLooks := .later }
def CpuBitsUptoCardSaid : Prop := Claim7.holds Tryz.pinned (.plain (OpenSpec.upto cpuBitsSpec)) cpuBitsUptoCard

/-- THE SECOND FORM's CARD OF 'arcadelaw3.CpuRests'. -/
def cpuRestsUptoCard : Claim7 := { stood := { row := cpuRestsUptoRow, standIns := [], harness := (true, "6bef58db6f3d14ce9b1325656d6e3d3ce008d771373473d32b44aa235b03425f"), looks := false }, kinds := [], alts := [], laidByText := true, laidKinds := [.data, .data], laidTests := true, laidLooks := .later }
def CpuRestsUptoCardSaid : Prop := Claim7.holds Tryz.pinned (.plain (OpenSpec.upto cpuRestsSpec)) cpuRestsUptoCard

/-- THE SECOND FORM's CARD OF 'arcadelaw3.CpuHidden'. -/
def cpuHiddenUptoCard : Claim7 := { stood := { row := cpuHiddenUptoRow, standIns := [], harness := (true, "6bef58db6f3d14ce9b1325656d6e3d3ce008d771373473d32b44aa235b03425f"), looks := false }, kinds := [], alts := [], laidByText := true, laidKinds := [.data, .data], laidTests := true, laidLooks := .later }
def CpuHiddenUptoCardSaid : Prop := Claim7.holds Tryz.pinned (.plain (OpenSpec.upto cpuHiddenSpec)) cpuHiddenUptoCard

/-- THE SECOND FORM's CARD OF 'arcadelaw3.CpuLoads'. -/
def cpuLoadsUptoCard : Claim7 := { stood := { row := cpuLoadsUptoRow, standIns := [], harness := (true, "6bef58db6f3d14ce9b1325656d6e3d3ce008d771373473d32b44aa235b03425f"), looks := false }, kinds := [], alts := [], laidByText := true, laidKinds := [.data, .data], laidTests := true, laidLooks := .later }
def CpuLoadsUptoCardSaid : Prop := Claim7.holds Tryz.pinned (.plain (OpenSpec.upto cpuLoadsSpec)) cpuLoadsUptoCard

/-- THE SECOND FORM's CARD OF 'arcadelaw3.CpuCut'. -/
def cpuCutUptoCard : Claim7 := { stood := { row := cpuCutUptoRow, standIns := [], harness := (true, "6bef58db6f3d14ce9b1325656d6e3d3ce008d771373473d32b44aa235b03425f"), looks := false }, kinds := [], alts := [], laidByText := true, laidKinds := [.data, .data], laidTests := true, laidLooks := .later }
def CpuCutUptoCardSaid : Prop := Claim7.holds Tryz.pinned (.plain (OpenSpec.upto cpuCutSpec)) cpuCutUptoCard

/-- THE SECOND FORM's CARD OF 'arcadelaw3.CpuTimed'. -/
def cpuTimedUptoCard : Claim7 := { stood := { row := cpuTimedUptoRow, standIns := [], harness := (true, "6bef58db6f3d14ce9b1325656d6e3d3ce008d771373473d32b44aa235b03425f"), looks := false }, kinds := [], alts := [], laidByText := true, laidKinds := [.data, .data], laidTests := true, laidLooks := .later }
def CpuTimedUptoCardSaid : Prop := Claim7.holds Tryz.pinned (.plain (OpenSpec.upto cpuTimedSpec)) cpuTimedUptoCard
end Rows
end Go.Proofs.YtmlfmkebljdoiaaGreatDoor
