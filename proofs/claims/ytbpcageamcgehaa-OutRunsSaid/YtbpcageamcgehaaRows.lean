/-
  No cell of these rows narrows 'for every input' (looked for: loops, veiled, ifaces, maps, wideKeys, modest, calm, conditions, laid).
  DERIVED. THE GIVEN ROWS OF THIS SEAT. 5 by the template 'for every input the law returns true; each argument reads behind the call as it read before'; 0 by the template 'total and deterministic' (their statements: YtbpcageamcgehaaTotals.lean).
  GIVEN WITH THE SEED: the statements are not yours to turn. If you find one false, say at which input.
  Laid BY PROGRAM, IN A SANDBOX (cutbox-rows.mjs): the forced cells as the released guide's own fill.sh prints them over the translation 6b6d63a1e26288c4… (all of the seat's roots in one cut). By AI agents, Wed Nov 11 2026. No macro, syntax, notation, axiom, sorry.
-/
import Derived.Test.YtbpcageamcgehaaChecked
import GoSem.Claim
import GoSem.ClaimJoined
import GoSem.ClaimMapViews
import Derived.JoinedTies
import Derived.KernelRfl
namespace Go.Proofs.Ytbpcageamcgehaa
/- THE CELL 'sum', in the pinned program and in every row, IS THE sha256 OF THE DUMP (.gsa) THAT YtbpcageamcgehaaProg.lean LOADS. Nothing in Lean hashes anything: it is a label: what it is worth is what the hold of that sum in a sandbox is worth. -/
noncomputable def Try.pinned : Pinned := { name := "ytbpcageamcgehaa", sum := "6b6d63a1e26288c4b9dace678594364c7e1b8f4c8a7d20fe67b79b223d3a780a", checked := Try.checked }
namespace Rows
def none {H : Type} : Left H := { results := [], args := [] }

/-- 'glosslaw2.BsetRuns': WHATEVER THE INPUT: true; the input reads as it did. -/
def bsetRunsSpec : ChangeSpec := { name := "bsetRuns", fn := fun _ => fun
  | [] => { results := [.lit (.bool true)], args := [] }
  | _ => none }
def bsetRunsRow : OpenClaim := { program := "ytbpcageamcgehaa", sum := "6b6d63a1e26288c4b9dace678594364c7e1b8f4c8a7d20fe67b79b223d3a780a", func := "gloss/glosslaw2.BsetRuns", spec := "bsetRuns", plainKeys := false, apart := false }
def BsetRunsSaid : Prop := bsetRunsRow.holds Try.pinned (OpenSpec.ofChange bsetRunsSpec)

/-- ITS FALSE NEIGHBOUR: 'it returns false'. Refute it at one input. -/
def bsetRunsWrong : ChangeSpec := { name := "bsetRuns", fn := fun _ => fun
  | [] => { results := [.lit (.bool false)], args := [] }
  | _ => none }
def BsetRunsWrongFalsely : Prop := bsetRunsRow.holds Try.pinned (OpenSpec.ofChange bsetRunsWrong)

/-- 'glosslaw13.OutRuns': WHATEVER THE INPUT: true; the input reads as it did. -/
def outRunsSpec : ChangeSpec := { name := "outRuns", fn := fun _ => fun
  | [] => { results := [.lit (.bool true)], args := [] }
  | _ => none }
def outRunsRow : OpenClaim := { program := "ytbpcageamcgehaa", sum := "6b6d63a1e26288c4b9dace678594364c7e1b8f4c8a7d20fe67b79b223d3a780a", func := "gloss/glosslaw13.OutRuns", spec := "outRuns", inPlace := ["internal/abi.NoEscape", "slices.overlaps[gloss/api.Out]", "internal/bytealg.CountString", "internal/bytealg.IndexByteString", "internal/bytealg.IndexString"], unfollowed := true, recurses := true, named := ["internal/bytealg.MaxLen"], plainKeys := false, apart := false }
def OutRunsSaid : Prop := outRunsRow.holds Try.pinned (OpenSpec.ofChange outRunsSpec)

/-- ITS FALSE NEIGHBOUR: 'it returns false'. Refute it at one input. -/
def outRunsWrong : ChangeSpec := { name := "outRuns", fn := fun _ => fun
  | [] => { results := [.lit (.bool false)], args := [] }
  | _ => none }
def OutRunsWrongFalsely : Prop := outRunsRow.holds Try.pinned (OpenSpec.ofChange outRunsWrong)

/-- 'glosslaw6.FindRuns': WHATEVER THE INPUT: true; the input reads as it did. -/
def findRunsSpec : ChangeSpec := { name := "findRuns", fn := fun _ => fun
  | [] => { results := [.lit (.bool true)], args := [] }
  | _ => none }
def findRunsRow : OpenClaim := { program := "ytbpcageamcgehaa", sum := "6b6d63a1e26288c4b9dace678594364c7e1b8f4c8a7d20fe67b79b223d3a780a", func := "gloss/glosslaw6.FindRuns", spec := "findRuns", inPlace := ["internal/bytealg.IndexByteString", "internal/bytealg.IndexString"], unfollowed := true, recurses := true, named := ["internal/bytealg.MaxLen"], plainKeys := false, apart := false }
def FindRunsSaid : Prop := findRunsRow.holds Try.pinned (OpenSpec.ofChange findRunsSpec)

/-- ITS FALSE NEIGHBOUR: 'it returns false'. Refute it at one input. -/
def findRunsWrong : ChangeSpec := { name := "findRuns", fn := fun _ => fun
  | [] => { results := [.lit (.bool false)], args := [] }
  | _ => none }
def FindRunsWrongFalsely : Prop := findRunsRow.holds Try.pinned (OpenSpec.ofChange findRunsWrong)

/-- 'glosslaw7.TplRuns': WHATEVER THE INPUT: true; the input reads as it did. -/
def tplRunsSpec : ChangeSpec := { name := "tplRuns", fn := fun _ => fun
  | [] => { results := [.lit (.bool true)], args := [] }
  | _ => none }
def tplRunsRow : OpenClaim := { program := "ytbpcageamcgehaa", sum := "6b6d63a1e26288c4b9dace678594364c7e1b8f4c8a7d20fe67b79b223d3a780a", func := "gloss/glosslaw7.TplRuns", spec := "tplRuns", inPlace := ["internal/bytealg.IndexByteString", "internal/bytealg.IndexString", "internal/abi.NoEscape"], unfollowed := true, recurses := true, named := ["internal/bytealg.MaxLen"], plainKeys := false, apart := false }
def TplRunsSaid : Prop := tplRunsRow.holds Try.pinned (OpenSpec.ofChange tplRunsSpec)

/-- ITS FALSE NEIGHBOUR: 'it returns false'. Refute it at one input. -/
def tplRunsWrong : ChangeSpec := { name := "tplRuns", fn := fun _ => fun
  | [] => { results := [.lit (.bool false)], args := [] }
  | _ => none }
def TplRunsWrongFalsely : Prop := tplRunsRow.holds Try.pinned (OpenSpec.ofChange tplRunsWrong)

/-- 'glosslaw5.WayRuns': WHATEVER THE INPUT: true; the input reads as it did. -/
def wayRunsSpec : ChangeSpec := { name := "wayRuns", fn := fun _ => fun
  | [] => { results := [.lit (.bool true)], args := [] }
  | _ => none }
def wayRunsRow : OpenClaim := { program := "ytbpcageamcgehaa", sum := "6b6d63a1e26288c4b9dace678594364c7e1b8f4c8a7d20fe67b79b223d3a780a", func := "gloss/glosslaw5.WayRuns", spec := "wayRuns", inPlace := ["internal/bytealg.IndexByteString", "internal/bytealg.IndexString"], unfollowed := true, recurses := true, named := ["internal/bytealg.MaxLen"], plainKeys := false, apart := false }
def WayRunsSaid : Prop := wayRunsRow.holds Try.pinned (OpenSpec.ofChange wayRunsSpec)

/-- ITS FALSE NEIGHBOUR: 'it returns false'. Refute it at one input. -/
def wayRunsWrong : ChangeSpec := { name := "wayRuns", fn := fun _ => fun
  | [] => { results := [.lit (.bool false)], args := [] }
  | _ => none }
def WayRunsWrongFalsely : Prop := wayRunsRow.holds Try.pinned (OpenSpec.ofChange wayRunsWrong)

/- THE SECOND FORM. 'bulk': how many values and letters a reading holds, each counted each time it is reached (what is shared counts as often as it is met; a slice's spare places count too). A statement '..UptoSaid' is the law's where the arguments, and the package variables that the reading takes, are together of bulk at most 1048576: NARROWER than '..Said'. Prove '..Said' where nothing that the law and all that it calls make is longer than what came in: it says more and counts as full. Else prove '..UptoSaid'. A law counts once. -/
mutual
def uptoBulk {H : Type} : DataW H → Nat
  | .lit (.string bytes) => bytes.length + 1
  | .lit _ => 1
  | .nil => 1
  | .ptr d => uptoBulk d + 1
  | .slice elems spare => uptoBulkAll elems + uptoBulkAll spare + 1
  | .agg parts => uptoBulkAll parts + 1
  | .iface _ d => uptoBulk d + 1
  | .map entries => uptoBulkEntries entries + 1
  | .held _ => 1
def uptoBulkAll {H : Type} : List (DataW H) → Nat
  | [] => 0
  | d :: r => uptoBulk d + uptoBulkAll r
def uptoBulkEntries {H : Type} : List (Lit × DataW H) → Nat
  | [] => 0
  | x :: r => uptoBulkEntry x + uptoBulkEntries r
def uptoBulkEntry {H : Type} : Lit × DataW H → Nat
  | (.string bytes, d) => bytes.length + uptoBulk d + 1
  | (_, d) => uptoBulk d + 1
 end
def uptoSmall : (H : Type) → List (DataW H) → Bool := fun _ ds => decide (uptoBulkAll ds ≤ 1048576)
def OpenSpec.upto (s : _root_.Go.ChangeSpec) : _root_.Go.OpenSpec := { _root_.Go.OpenSpec.ofChange s with cond := some uptoSmall }

/-- 'glosslaw2.BsetRuns', WHERE WHAT IT READS IS OF BULK AT MOST 1048576: true; the input reads as it did. -/
def bsetRunsUptoRow : OpenClaim := { program := "ytbpcageamcgehaa", sum := "6b6d63a1e26288c4b9dace678594364c7e1b8f4c8a7d20fe67b79b223d3a780a", func := "gloss/glosslaw2.BsetRuns", spec := "bsetRuns", plainKeys := false, apart := false, narrowed := true }
def BsetRunsUptoSaid : Prop := bsetRunsUptoRow.holds Try.pinned (OpenSpec.upto bsetRunsSpec)

/-- 'glosslaw13.OutRuns', WHERE WHAT IT READS IS OF BULK AT MOST 1048576: true; the input reads as it did. -/
def outRunsUptoRow : OpenClaim := { program := "ytbpcageamcgehaa", sum := "6b6d63a1e26288c4b9dace678594364c7e1b8f4c8a7d20fe67b79b223d3a780a", func := "gloss/glosslaw13.OutRuns", spec := "outRuns", inPlace := ["internal/abi.NoEscape", "slices.overlaps[gloss/api.Out]", "internal/bytealg.CountString", "internal/bytealg.IndexByteString", "internal/bytealg.IndexString"], unfollowed := true, recurses := true, named := ["internal/bytealg.MaxLen"], plainKeys := false, apart := false, narrowed := true }
def OutRunsUptoSaid : Prop := outRunsUptoRow.holds Try.pinned (OpenSpec.upto outRunsSpec)

/-- 'glosslaw6.FindRuns', WHERE WHAT IT READS IS OF BULK AT MOST 1048576: true; the input reads as it did. -/
def findRunsUptoRow : OpenClaim := { program := "ytbpcageamcgehaa", sum := "6b6d63a1e26288c4b9dace678594364c7e1b8f4c8a7d20fe67b79b223d3a780a", func := "gloss/glosslaw6.FindRuns", spec := "findRuns", inPlace := ["internal/bytealg.IndexByteString", "internal/bytealg.IndexString"], unfollowed := true, recurses := true, named := ["internal/bytealg.MaxLen"], plainKeys := false, apart := false, narrowed := true }
def FindRunsUptoSaid : Prop := findRunsUptoRow.holds Try.pinned (OpenSpec.upto findRunsSpec)

/-- 'glosslaw7.TplRuns', WHERE WHAT IT READS IS OF BULK AT MOST 1048576: true; the input reads as it did. -/
def tplRunsUptoRow : OpenClaim := { program := "ytbpcageamcgehaa", sum := "6b6d63a1e26288c4b9dace678594364c7e1b8f4c8a7d20fe67b79b223d3a780a", func := "gloss/glosslaw7.TplRuns", spec := "tplRuns", inPlace := ["internal/bytealg.IndexByteString", "internal/bytealg.IndexString", "internal/abi.NoEscape"], unfollowed := true, recurses := true, named := ["internal/bytealg.MaxLen"], plainKeys := false, apart := false, narrowed := true }
def TplRunsUptoSaid : Prop := tplRunsUptoRow.holds Try.pinned (OpenSpec.upto tplRunsSpec)

/-- 'glosslaw5.WayRuns', WHERE WHAT IT READS IS OF BULK AT MOST 1048576: true; the input reads as it did. -/
def wayRunsUptoRow : OpenClaim := { program := "ytbpcageamcgehaa", sum := "6b6d63a1e26288c4b9dace678594364c7e1b8f4c8a7d20fe67b79b223d3a780a", func := "gloss/glosslaw5.WayRuns", spec := "wayRuns", inPlace := ["internal/bytealg.IndexByteString", "internal/bytealg.IndexString"], unfollowed := true, recurses := true, named := ["internal/bytealg.MaxLen"], plainKeys := false, apart := false, narrowed := true }
def WayRunsUptoSaid : Prop := wayRunsUptoRow.holds Try.pinned (OpenSpec.upto wayRunsSpec)

end Rows
end Go.Proofs.Ytbpcageamcgehaa
