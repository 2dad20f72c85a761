/-
  DERIVED. GIVEN WITH THE SEED: THE CARDS: each row of YtlmacdfbdhpljaaGreatDoorRows.lean that lists a variable, with what it lists TIED to the program's text (the seventh form; the later family's looks); each row that meets fmt, with fmt's text TOLD by the authors' own Lean function (tested against real Go, not proved from fmt's source: count such statements apart). THE CARD IS WHAT COUNTS. Prove the row's statement (the work); the ties are given (YtlmacdfbdhpljaaGreatDoorTie.lean); close each card by the builder's one call (the guide's Derived/Test/ToyasCard.lean, 'card_holds'). Laid BY PROGRAM, IN A SANDBOX (cutbox-door.mjs). By AI agents, Wed Nov 11 2026. No macro, syntax, notation, axiom, sorry.
-/
import Derived.Test.YtlmacdfbdhpljaaGreatDoorRows
import GoSem.ClaimSeven
namespace Go.Proofs.YtlmacdfbdhpljaaGreatDoor
namespace Rows

/-- THE TIED CARD OF 'arcadelaw2.AsmInfo'. -/
def asmInfoCard : Claim7 := { stood := { row := asmInfoRow, standIns := [], harness := (true, "3bd5f4526e07eb7409a0ae6a0d4ddb983c2ac9c16ecae3483b4cd1919d8981c2"), looks := true }, kinds := [], alts := [], laidByText := true, laidKinds := [.data, .pinned], laidTests := true, laidLooks := .later }
def AsmInfoCardSaid : Prop := Claim7.holds Tryz.pinned (.plain (OpenSpec.ofChange asmInfoSpec)) asmInfoCard

/-- THE TIED CARD OF 'arcadelaw2.AsmReckons'. -/
def asmReckonsCard : Claim7 := { stood := { row := asmReckonsRow, standIns := [], harness := (true, "3bd5f4526e07eb7409a0ae6a0d4ddb983c2ac9c16ecae3483b4cd1919d8981c2"), looks := true }, kinds := [], alts := [], laidByText := true, laidKinds := [.data, .pinned], laidTests := true, laidLooks := .later }
def AsmReckonsCardSaid : Prop := Claim7.holds Tryz.pinned (.plain (OpenSpec.ofChange asmReckonsSpec)) asmReckonsCard

/-- THE TIED CARD OF 'arcadelaw2.AsmDisasm'. -/
def asmDisasmCard : Claim7 := { stood := { row := asmDisasmRow, standIns := [], harness := (true, "3bd5f4526e07eb7409a0ae6a0d4ddb983c2ac9c16ecae3483b4cd1919d8981c2"), looks := true }, kinds := [], alts := [], laidByText := true, laidKinds := [.data, .data, .data, .data, .pinned], laidTests := true, laidLooks := .later }
def AsmDisasmCardSaid : Prop := Claim7.holds Tryz.pinned (.plain (OpenSpec.ofChange asmDisasmSpec)) asmDisasmCard

/-- THE TIED CARD OF 'arcadelaw2.AsmTimed'. -/
def asmTimedCard : Claim7 := { stood := { row := asmTimedRow, standIns := [], harness := (true, "3bd5f4526e07eb7409a0ae6a0d4ddb983c2ac9c16ecae3483b4cd1919d8981c2"), looks := true }, kinds := [], alts := [], laidByText := true, laidKinds := [.data, .data, .data, .data, .pinned], laidTests := true, laidLooks := .later }
def AsmTimedCardSaid : Prop := Claim7.holds Tryz.pinned (.plain (OpenSpec.ofChange asmTimedSpec)) asmTimedCard

/-- THE TIED CARD OF 'arcadelaw2.AsmNear'. -/
def asmNearCard : Claim7 := { stood := { row := asmNearRow, standIns := [], harness := (true, "3bd5f4526e07eb7409a0ae6a0d4ddb983c2ac9c16ecae3483b4cd1919d8981c2"), looks := true }, kinds := [], alts := [], laidByText := true, laidKinds := [.data, .data, .data, .data, .pinned], laidTests := true, laidLooks := .later }
def AsmNearCardSaid : Prop := Claim7.holds Tryz.pinned (.plain (OpenSpec.ofChange asmNearSpec)) asmNearCard

/-- THE TIED CARD OF 'arcadelaw2.AsmListings'. -/
def asmListingsCard : Claim7 := { stood := { row := asmListingsRow, standIns := [], harness := (true, "3bd5f4526e07eb7409a0ae6a0d4ddb983c2ac9c16ecae3483b4cd1919d8981c2"), looks := true }, kinds := [], alts := [], laidByText := true, laidKinds := [.data, .data, .data, .data, .pinned], laidTests := true, laidLooks := .later }
def AsmListingsCardSaid : Prop := Claim7.holds Tryz.pinned (.plain (OpenSpec.ofChange asmListingsSpec)) asmListingsCard

/-- THE TIED CARD OF 'arcadelaw2.AsmRound'. -/
def asmRoundCard : Claim7 := { stood := { row := asmRoundRow, standIns := [], harness := (true, "3bd5f4526e07eb7409a0ae6a0d4ddb983c2ac9c16ecae3483b4cd1919d8981c2"), looks := true }, kinds := [], alts := [], laidByText := true, laidKinds := [.data, .data, .data, .data, .pinned], laidTests := true, laidLooks := .later }
def AsmRoundCardSaid : Prop := Claim7.holds Tryz.pinned (.plain (OpenSpec.ofChange asmRoundSpec)) asmRoundCard

/-- THE TIED CARD OF 'arcadelaw2.AsmListed'. -/
def asmListedCard : Claim7 := { stood := { row := asmListedRow, standIns := [], harness := (true, "3bd5f4526e07eb7409a0ae6a0d4ddb983c2ac9c16ecae3483b4cd1919d8981c2"), looks := true }, kinds := [], alts := [], laidByText := true, laidKinds := [.data, .data, .data, .data, .pinned], laidTests := true, laidLooks := .later }
def AsmListedCardSaid : Prop := Claim7.holds Tryz.pinned (.plain (OpenSpec.ofChange asmListedSpec)) asmListedCard

/-- THE TIED CARD OF 'arcadelaw2.AsmSources'. -/
def asmSourcesCard : Claim7 := { stood := { row := asmSourcesRow, standIns := [], harness := (true, "3bd5f4526e07eb7409a0ae6a0d4ddb983c2ac9c16ecae3483b4cd1919d8981c2"), looks := true }, kinds := [], alts := [], laidByText := true, laidKinds := [.data, .pinned], laidTests := true, laidLooks := .later }
def AsmSourcesCardSaid : Prop := Claim7.holds Tryz.pinned (.plain (OpenSpec.ofChange asmSourcesSpec)) asmSourcesCard

/-- THE TIED CARD OF 'arcadelaw2.AsmNamed'. -/
def asmNamedCard : Claim7 := { stood := { row := asmNamedRow, standIns := [], harness := (true, "3bd5f4526e07eb7409a0ae6a0d4ddb983c2ac9c16ecae3483b4cd1919d8981c2"), looks := true }, kinds := [], alts := [], laidByText := true, laidKinds := [.data, .pinned], laidTests := true, laidLooks := .later }
def AsmNamedCardSaid : Prop := Claim7.holds Tryz.pinned (.plain (OpenSpec.ofChange asmNamedSpec)) asmNamedCard

/-- THE TIED CARD OF 'arcadelaw2.AsmJoined'. -/
def asmJoinedCard : Claim7 := { stood := { row := asmJoinedRow, standIns := [], harness := (true, "3bd5f4526e07eb7409a0ae6a0d4ddb983c2ac9c16ecae3483b4cd1919d8981c2"), looks := true }, kinds := [], alts := [], laidByText := true, laidKinds := [.data, .data, .data, .data, .pinned], laidTests := true, laidLooks := .later }
def AsmJoinedCardSaid : Prop := Claim7.holds Tryz.pinned (.plain (OpenSpec.ofChange asmJoinedSpec)) asmJoinedCard

/-- THE TIED CARD OF 'arcadelaw2.AsmAll'. -/
def asmAllCard : Claim7 := { stood := { row := asmAllRow, standIns := [], harness := (true, "3bd5f4526e07eb7409a0ae6a0d4ddb983c2ac9c16ecae3483b4cd1919d8981c2"), looks := true }, kinds := [], alts := [], laidByText := true, laidKinds := [.data, .data, .data, .data, .pinned], laidTests := true, laidLooks := .later }
def AsmAllCardSaid : Prop := Claim7.holds Tryz.pinned (.plain (OpenSpec.ofChange asmAllSpec)) asmAllCard

/-- THE SECOND FORM's CARD OF 'arcadelaw2.AsmInfo'. -/
def asmInfoUptoCard : Claim7 := { stood := { row := asmInfoUptoRow, standIns := [], harness := (true, "3bd5f4526e07eb7409a0ae6a0d4ddb983c2ac9c16ecae3483b4cd1919d8981c2"), looks := true }, kinds := [], alts := [], laidByText := true, laidKinds := [.data, .pinned], laidTests := true, laidLooks := .later }
def AsmInfoUptoCardSaid : Prop := Claim7.holds Tryz.pinned (.plain (OpenSpec.upto asmInfoSpec)) asmInfoUptoCard

/-- THE SECOND FORM's CARD OF 'arcadelaw2.AsmReckons'. -/
def asmReckonsUptoCard : Claim7 := { stood := { row := asmReckonsUptoRow, standIns := [], harness := (true, "3bd5f4526e07eb7409a0ae6a0d4ddb983c2ac9c16ecae3483b4cd1919d8981c2"), looks := true }, kinds := [], alts := [], laidByText := true, laidKinds := [.data, .pinned], laidTests := true, laidLooks := .later }
def AsmReckonsUptoCardSaid : Prop := Claim7.holds Tryz.pinned (.plain (OpenSpec.upto asmReckonsSpec)) asmReckonsUptoCard

/-- THE SECOND FORM's CARD OF 'arcadelaw2.AsmDisasm'. -/
def asmDisasmUptoCard : Claim7 := { stood := { row := asmDisasmUptoRow, standIns := [], harness := (true, "3bd5f4526e07eb7409a0ae6a0d4ddb983c2ac9c16ecae3483b4cd1919d8981c2"), looks := true }, kinds := [], alts := [], laidByText := true, laidKinds := [.data, .data, .data, .data, .pinned], laidTests := true, laidLooks := .later }
def AsmDisasmUptoCardSaid : Prop := Claim7.holds Tryz.pinned (.plain (OpenSpec.upto asmDisasmSpec)) asmDisasmUptoCard

/-- THE SECOND FORM's CARD OF 'arcadelaw2.AsmTimed'. -/
def asmTimedUptoCard : Claim7 := { stood := { row := asmTimedUptoRow, standIns := [], harness := (true, "3bd5f4526e07eb7409a0ae6a0d4ddb983c2ac9c16ecae3483b4cd1919d8981c2"), looks := true }, kinds := [], alts := [], laidByText := true, laidKinds := [.data, .data, .data, .data, .pinned], laidTests := true, laidLooks := .later }
def AsmTimedUptoCardSaid : Prop := Claim7.holds Tryz.pinned (.plain (OpenSpec.upto asmTimedSpec)) asmTimedUptoCard

/-- THE SECOND FORM's CARD OF 'arcadelaw2.AsmNear'. -/
def asmNearUptoCard : Claim7 := { stood := { row := asmNearUptoRow, standIns := [], harness := (true, "3bd5f4526e07eb7409a0ae6a0d4ddb983c2ac9c16ecae3483b4cd1919d8981c2"), looks := true }, kinds := [], alts := [], laidByText := true, laidKinds := [.data, .data, .data, .data, .pinned], laidTests := true, laidLooks := .later }
def AsmNearUptoCardSaid : Prop := Claim7.holds Tryz.pinned (.plain (OpenSpec.upto asmNearSpec)) asmNearUptoCard

/-- THE SECOND FORM's CARD OF 'arcadelaw2.AsmListings'. -/
def asmListingsUptoCard : Claim7 := { stood := { row := asmListingsUptoRow, standIns := [], harness := (true, "3bd5f4526e07eb7409a0ae6a0d4ddb983c2ac9c16ecae3483b4cd1919d8981c2"), looks := true }, kinds := [], alts := [], laidByText := true, laidKinds := [.data, .data, .data, .data, .pinned], laidTests := true, laidLooks := .later }
def AsmListingsUptoCardSaid : Prop := Claim7.holds Tryz.pinned (.plain (OpenSpec.upto asmListingsSpec)) asmListingsUptoCard

/-- THE SECOND FORM's CARD OF 'arcadelaw2.AsmRound'. -/
def asmRoundUptoCard : Claim7 := { stood := { row := asmRoundUptoRow, standIns := [], harness := (true, "3bd5f4526e07eb7409a0ae6a0d4ddb983c2ac9c16ecae3483b4cd1919d8981c2"), looks := true }, kinds := [], alts := [], laidByText := true, laidKinds := [.data, .data, .data, .data, .pinned], laidTests := true, laidLooks := .later }
def AsmRoundUptoCardSaid : Prop := Claim7.holds Tryz.pinned (.plain (OpenSpec.upto asmRoundSpec)) asmRoundUptoCard

/-- THE SECOND FORM's CARD OF 'arcadelaw2.AsmListed'. -/
def asmListedUptoCard : Claim7 := { stood := { row := asmListedUptoRow, standIns := [], harness := (true, "3bd5f4526e07eb7409a0ae6a0d4ddb983c2ac9c16ecae3483b4cd1919d8981c2"), looks := true }, kinds := [], alts := [], laidByText := true, laidKinds := [.data, .data, .data, .data, .pinned], laidTests := true, laidLooks := .later }
def AsmListedUptoCardSaid : Prop := Claim7.holds Tryz.pinned (.plain (OpenSpec.upto asmListedSpec)) asmListedUptoCard

/-- THE SECOND FORM's CARD OF 'arcadelaw2.AsmSources'. -/
def asmSourcesUptoCard : Claim7 := { stood := { row := asmSourcesUptoRow, standIns := [], harness := (true, "3bd5f4526e07eb7409a0ae6a0d4ddb983c2ac9c16ecae3483b4cd1919d8981c2"), looks := true }, kinds := [], alts := [], laidByText := true, laidKinds := [.data, .pinned], laidTests := true, laidLooks := .later }
def AsmSourcesUptoCardSaid : Prop := Claim7.holds Tryz.pinned (.plain (OpenSpec.upto asmSourcesSpec)) asmSourcesUptoCard

/-- THE SECOND FORM's CARD OF 'arcadelaw2.AsmNamed'. -/
def asmNamedUptoCard : Claim7 := { stood := { row := asmNamedUptoRow, standIns := [], harness := (true, "3bd5f4526e07eb7409a0ae6a0d4ddb983c2ac9c16ecae3483b4cd1919d8981c2"), looks := true }, kinds := [], alts := [], laidByText := true, laidKinds := [.data, .pinned], laidTests := true, laidLooks := .later }
def AsmNamedUptoCardSaid : Prop := Claim7.holds Tryz.pinned (.plain (OpenSpec.upto asmNamedSpec)) asmNamedUptoCard

/-- THE SECOND FORM's CARD OF 'arcadelaw2.AsmJoined'. -/
def asmJoinedUptoCard : Claim7 := { stood := { row := asmJoinedUptoRow, standIns := [], harness := (true, "3bd5f4526e07eb7409a0ae6a0d4ddb983c2ac9c16ecae3483b4cd1919d8981c2"), looks := true }, kinds := [], alts := [], laidByText := true, laidKinds := [.data, .data, .data, .data, .pinned], laidTests := true, laidLooks := .later }
def AsmJoinedUptoCardSaid : Prop := Claim7.holds Tryz.pinned (.plain (OpenSpec.upto asmJoinedSpec)) asmJoinedUptoCard

/-- THE SECOND FORM's CARD OF 'arcadelaw2.AsmAll'. -/
def asmAllUptoCard : Claim7 := { stood := { row := asmAllUptoRow, standIns := [], harness := (true, "3bd5f4526e07eb7409a0ae6a0d4ddb983c2ac9c16ecae3483b4cd1919d8981c2"), looks := true }, kinds := [], alts := [], laidByText := true, laidKinds := [.data, .data, .data, .data, .pinned], laidTests := true, laidLooks := .later }
def AsmAllUptoCardSaid : Prop := Claim7.holds Tryz.pinned (.plain (OpenSpec.upto asmAllSpec)) asmAllUptoCard
end Rows
end Go.Proofs.YtlmacdfbdhpljaaGreatDoor
