/-
  DERIVED. GIVEN WITH THE SEED: THE CARDS: each row of YtjihbfdbgamcdaaGreatDoorRows.lean that lists a variable, with what it lists TIED to the program's text (the seventh form; the later family's looks); each row that meets fmt, with fmt's text TOLD by the authors' own Lean function (tested against real Go, not proved from fmt's source: count such statements apart). THE CARD IS WHAT COUNTS. Prove the row's statement (the work); the ties are given (YtjihbfdbgamcdaaGreatDoorTie.lean); close each card by the builder's one call (the guide's Derived/Test/ToyasCard.lean, 'card_holds'). Laid BY PROGRAM, IN A SANDBOX (cutbox-door.mjs). By AI agents, Wed Nov 11 2026. No macro, syntax, notation, axiom, sorry.
-/
import Derived.Test.YtjihbfdbgamcdaaGreatDoorRows
import GoSem.ClaimSeven
namespace Go.Proofs.YtjihbfdbgamcdaaGreatDoor
namespace Rows

/-- THE TIED CARD OF 'glosslaw10.ProgRuns'. -/
def progRunsCard : Claim7 := { stood := { row := progRunsRow, standIns := [], harness := (true, "b90d72dffe6d9df06639538c4e33963b6fc1e5d62886cf580bc8f7d4169a9d95"), looks := false }, kinds := [], alts := [], laidByText := true, laidKinds := [.data, .data, .data, .data, .pinned], laidTests := true, laidLooks := .later }
def ProgRunsCardSaid : Prop := Claim7.holds Tryz.pinned (.plain (OpenSpec.ofChange progRunsSpec)) progRunsCard

/-- THE TIED CARD OF 'glosslaw11.StateRuns'. -/
def stateRunsCard : Claim7 := { stood := { row := stateRunsRow, standIns := [], harness := (true, "b90d72dffe6d9df06639538c4e33963b6fc1e5d62886cf580bc8f7d4169a9d95"), looks := false }, kinds := [], alts := [], laidByText := true, laidKinds := [.data, .data, .data, .data, .pinned], laidTests := true, laidLooks := .later }
def StateRunsCardSaid : Prop := Claim7.holds Tryz.pinned (.plain (OpenSpec.ofChange stateRunsSpec)) stateRunsCard

/-- THE TIED CARD OF 'glosslaw11.StateMany'. -/
def stateManyCard : Claim7 := { stood := { row := stateManyRow, standIns := [], harness := (true, "b90d72dffe6d9df06639538c4e33963b6fc1e5d62886cf580bc8f7d4169a9d95"), looks := false }, kinds := [], alts := [], laidByText := true, laidKinds := [.data, .data, .data, .data, .pinned], laidTests := true, laidLooks := .later }
def StateManyCardSaid : Prop := Claim7.holds Tryz.pinned (.plain (OpenSpec.ofChange stateManySpec)) stateManyCard

/-- THE TIED CARD OF 'glosslaw10.ProgJumps'. -/
def progJumpsCard : Claim7 := { stood := { row := progJumpsRow, standIns := [], harness := (true, "b90d72dffe6d9df06639538c4e33963b6fc1e5d62886cf580bc8f7d4169a9d95"), looks := false }, kinds := [], alts := [], laidByText := true, laidKinds := [.data, .data, .data, .data, .pinned], laidTests := true, laidLooks := .later }
def ProgJumpsCardSaid : Prop := Claim7.holds Tryz.pinned (.plain (OpenSpec.ofChange progJumpsSpec)) progJumpsCard

/-- THE SECOND FORM's CARD OF 'glosslaw10.ProgRuns'. -/
def progRunsUptoCard : Claim7 := { stood := { row := progRunsUptoRow, standIns := [], harness := (true, "b90d72dffe6d9df06639538c4e33963b6fc1e5d62886cf580bc8f7d4169a9d95"), looks := false }, kinds := [], alts := [], laidByText := true, laidKinds := [.data, .data, .data, .data, .pinned], laidTests := true, laidLooks := .later }
def ProgRunsUptoCardSaid : Prop := Claim7.holds Tryz.pinned (.plain (OpenSpec.upto progRunsSpec)) progRunsUptoCard

/-- THE SECOND FORM's CARD OF 'glosslaw11.StateRuns'. -/
def stateRunsUptoCard : Claim7 := { stood := { row := stateRunsUptoRow, standIns := [], harness := (true, "b90d72dffe6d9df06639538c4e33963b6fc1e5d62886cf580bc8f7d4169a9d95"), looks := false }, kinds := [], alts := [], laidByText := true, laidKinds := [.data, .data, .data, .data, .pinned], laidTests := true, laidLooks := .later }
def StateRunsUptoCardSaid : Prop := Claim7.holds Tryz.pinned (.plain (OpenSpec.upto stateRunsSpec)) stateRunsUptoCard

/-- THE SECOND FORM's CARD OF 'glosslaw11.StateMany'. -/
def stateManyUptoCard : Claim7 := { stood := { row := stateManyUptoRow, standIns := [], harness := (true, "b90d72dffe6d9df06639538c4e33963b6fc1e5d62886cf580bc8f7d4169a9d95"), looks := false }, kinds := [], alts := [], laidByText := true, laidKinds := [.data, .data, .data, .data, .pinned], laidTests := true, laidLooks := .later }
def StateManyUptoCardSaid : Prop := Claim7.holds Tryz.pinned (.plain (OpenSpec.upto stateManySpec)) stateManyUptoCard

/-- THE SECOND FORM's CARD OF 'glosslaw10.ProgJumps'. -/
def progJumpsUptoCard : Claim7 := { stood := { row := progJumpsUptoRow, standIns := [], harness := (true, "b90d72dffe6d9df06639538c4e33963b6fc1e5d62886cf580bc8f7d4169a9d95"), looks := false }, kinds := [], alts := [], laidByText := true, laidKinds := [.data, .data, .data, .data, .pinned], laidTests := true, laidLooks := .later }
def ProgJumpsUptoCardSaid : Prop := Claim7.holds Tryz.pinned (.plain (OpenSpec.upto progJumpsSpec)) progJumpsUptoCard
end Rows
end Go.Proofs.YtjihbfdbgamcdaaGreatDoor
