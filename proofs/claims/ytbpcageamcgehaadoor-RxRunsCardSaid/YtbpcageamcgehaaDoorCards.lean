/-
  DERIVED. GIVEN WITH THE SEED: THE CARDS: each row of YtbpcageamcgehaaDoorRows.lean that lists a variable, with what it lists TIED to the program's text (the seventh form; the later family's looks); each row that meets fmt, with fmt's text TOLD by the authors' own Lean function (tested against real Go, not proved from fmt's source: count such statements apart). THE CARD IS WHAT COUNTS. Prove the row's statement (the work); the ties are given (YtbpcageamcgehaaDoorTie.lean); close each card by the builder's one call (the guide's Derived/Test/ToyasCard.lean, 'card_holds'). Laid BY PROGRAM, IN A SANDBOX (cutbox-door.mjs). By AI agents, Wed Nov 11 2026. No macro, syntax, notation, axiom, sorry.
-/
import Derived.Test.YtbpcageamcgehaaDoorRows
import GoSem.ClaimSeven
namespace Go.Proofs.YtbpcageamcgehaaDoor
namespace Rows

/-- THE TIED CARD OF 'glosslaw4.RxRuns'. -/
def rxRunsCard : Claim7 := { stood := { row := rxRunsRow, standIns := [], harness := (true, "914a58629d3c948d5a169dfd14dff6bd7df05e814573b142b9ac4ba06c3edf8d"), looks := false }, kinds := [], alts := [], laidByText := true, laidKinds := [.data, .data, .data], laidTests := true, laidLooks := .later }
def RxRunsCardSaid : Prop := Claim7.holds Tryd.pinned (.plain (OpenSpec.ofChange rxRunsSpec)) rxRunsCard

/-- THE SECOND FORM's CARD OF 'glosslaw4.RxRuns'. -/
def rxRunsUptoCard : Claim7 := { stood := { row := rxRunsUptoRow, standIns := [], harness := (true, "914a58629d3c948d5a169dfd14dff6bd7df05e814573b142b9ac4ba06c3edf8d"), looks := false }, kinds := [], alts := [], laidByText := true, laidKinds := [.data, .data, .data], laidTests := true, laidLooks := .later }
def RxRunsUptoCardSaid : Prop := Claim7.holds Tryd.pinned (.plain (OpenSpec.upto rxRunsSpec)) rxRunsUptoCard
end Rows
end Go.Proofs.YtbpcageamcgehaaDoor
