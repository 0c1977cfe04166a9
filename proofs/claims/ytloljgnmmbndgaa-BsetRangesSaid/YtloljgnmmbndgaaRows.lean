/-
  No cell of these rows narrows 'for every input' (looked for: loops, veiled, ifaces, maps, wideKeys, modest, calm, conditions, laid).
  DERIVED. THE GIVEN ROWS OF THIS SEAT. 5 by the template 'for every input the law returns true; each argument reads behind the call as it read before'; 0 by the template 'total and deterministic' (their statements: YtloljgnmmbndgaaTotals.lean).
  GIVEN WITH THE SEED: the statements are not yours to turn. If you find one false, say at which input.
  Laid BY PROGRAM, IN A SANDBOX (cutbox-rows.mjs): the forced cells as the released guide's own fill.sh prints them over the translation d044ec56769e4e66… (all of the seat's roots in one cut). By AI agents, Wed Nov 11 2026. No macro, syntax, notation, axiom, sorry.
-/
import Derived.Test.YtloljgnmmbndgaaChecked
import GoSem.Claim
import GoSem.ClaimJoined
import GoSem.ClaimMapViews
import Derived.JoinedTies
import Derived.KernelRfl
namespace Go.Proofs.Ytloljgnmmbndgaa
/- THE CELL 'sum', in the pinned program and in every row, IS THE sha256 OF THE DUMP (.gsa) THAT YtloljgnmmbndgaaProg.lean LOADS. Nothing in Lean hashes anything: it is a label: what it is worth is what the hold of that sum in a sandbox is worth. -/
noncomputable def Try.pinned : Pinned := { name := "ytloljgnmmbndgaa", sum := "d044ec56769e4e66afa5bec26a5579b76b6ce8475978f950bc72dfa513541517", checked := Try.checked }
namespace Rows
def none {H : Type} : Left H := { results := [], args := [] }

/-- 'glosslaw2.BsetRuns': WHATEVER THE INPUT: true; the input reads as it did. -/
def bsetRunsSpec : ChangeSpec := { name := "bsetRuns", fn := fun _ => fun
  | [] => { results := [.lit (.bool true)], args := [] }
  | _ => none }
def bsetRunsRow : OpenClaim := { program := "ytloljgnmmbndgaa", sum := "d044ec56769e4e66afa5bec26a5579b76b6ce8475978f950bc72dfa513541517", func := "gloss/glosslaw2.BsetRuns", spec := "bsetRuns", apart := false }
def BsetRunsSaid : Prop := bsetRunsRow.holds Try.pinned (OpenSpec.ofChange bsetRunsSpec)

/-- ITS FALSE NEIGHBOUR: 'it returns false'. Refute it at one input. -/
def bsetRunsWrong : ChangeSpec := { name := "bsetRuns", fn := fun _ => fun
  | [] => { results := [.lit (.bool false)], args := [] }
  | _ => none }
def BsetRunsWrongFalsely : Prop := bsetRunsRow.holds Try.pinned (OpenSpec.ofChange bsetRunsWrong)

/-- 'glosslaw2.BsetClasses': WHATEVER THE INPUT: true; the input reads as it did. -/
def bsetClassesSpec : ChangeSpec := { name := "bsetClasses", fn := fun _ => fun
  | [d] => { results := [.lit (.bool true)], args := [d] }
  | _ => none }
def bsetClassesRow : OpenClaim := { program := "ytloljgnmmbndgaa", sum := "d044ec56769e4e66afa5bec26a5579b76b6ce8475978f950bc72dfa513541517", func := "gloss/glosslaw2.BsetClasses", spec := "bsetClasses", apart := false }
def BsetClassesSaid : Prop := bsetClassesRow.holds Try.pinned (OpenSpec.ofChange bsetClassesSpec)

/-- ITS FALSE NEIGHBOUR: 'it returns false'. Refute it at one input. -/
def bsetClassesWrong : ChangeSpec := { name := "bsetClasses", fn := fun _ => fun
  | [d] => { results := [.lit (.bool false)], args := [d] }
  | _ => none }
def BsetClassesWrongFalsely : Prop := bsetClassesRow.holds Try.pinned (OpenSpec.ofChange bsetClassesWrong)

/-- 'glosslaw2.BsetLaws': WHATEVER THE INPUT: true; the input reads as it did. -/
def bsetLawsSpec : ChangeSpec := { name := "bsetLaws", fn := fun _ => fun
  | [d1, d2, d3] => { results := [.lit (.bool true)], args := [d1, d2, d3] }
  | _ => none }
def bsetLawsRow : OpenClaim := { program := "ytloljgnmmbndgaa", sum := "d044ec56769e4e66afa5bec26a5579b76b6ce8475978f950bc72dfa513541517", func := "gloss/glosslaw2.BsetLaws", spec := "bsetLaws", apart := false }
def BsetLawsSaid : Prop := bsetLawsRow.holds Try.pinned (OpenSpec.ofChange bsetLawsSpec)

/-- ITS FALSE NEIGHBOUR: 'it returns false'. Refute it at one input. -/
def bsetLawsWrong : ChangeSpec := { name := "bsetLaws", fn := fun _ => fun
  | [d1, d2, d3] => { results := [.lit (.bool false)], args := [d1, d2, d3] }
  | _ => none }
def BsetLawsWrongFalsely : Prop := bsetLawsRow.holds Try.pinned (OpenSpec.ofChange bsetLawsWrong)

/-- 'glosslaw2.BsetTells': WHATEVER THE INPUT: true; the input reads as it did. -/
def bsetTellsSpec : ChangeSpec := { name := "bsetTells", fn := fun _ => fun
  | [d1, d2, d3, d4, d5] => { results := [.lit (.bool true)], args := [d1, d2, d3, d4, d5] }
  | _ => none }
def bsetTellsRow : OpenClaim := { program := "ytloljgnmmbndgaa", sum := "d044ec56769e4e66afa5bec26a5579b76b6ce8475978f950bc72dfa513541517", func := "gloss/glosslaw2.BsetTells", spec := "bsetTells", apart := false }
def BsetTellsSaid : Prop := bsetTellsRow.holds Try.pinned (OpenSpec.ofChange bsetTellsSpec)

/-- ITS FALSE NEIGHBOUR: 'it returns false'. Refute it at one input. -/
def bsetTellsWrong : ChangeSpec := { name := "bsetTells", fn := fun _ => fun
  | [d1, d2, d3, d4, d5] => { results := [.lit (.bool false)], args := [d1, d2, d3, d4, d5] }
  | _ => none }
def BsetTellsWrongFalsely : Prop := bsetTellsRow.holds Try.pinned (OpenSpec.ofChange bsetTellsWrong)

/-- 'glosslaw2.BsetRanges': WHATEVER THE INPUT: true; the input reads as it did. -/
def bsetRangesSpec : ChangeSpec := { name := "bsetRanges", fn := fun _ => fun
  | [d1, d2, d3] => { results := [.lit (.bool true)], args := [d1, d2, d3] }
  | _ => none }
def bsetRangesRow : OpenClaim := { program := "ytloljgnmmbndgaa", sum := "d044ec56769e4e66afa5bec26a5579b76b6ce8475978f950bc72dfa513541517", func := "gloss/glosslaw2.BsetRanges", spec := "bsetRanges", apart := false }
def BsetRangesSaid : Prop := bsetRangesRow.holds Try.pinned (OpenSpec.ofChange bsetRangesSpec)

/-- ITS FALSE NEIGHBOUR: 'it returns false'. Refute it at one input. -/
def bsetRangesWrong : ChangeSpec := { name := "bsetRanges", fn := fun _ => fun
  | [d1, d2, d3] => { results := [.lit (.bool false)], args := [d1, d2, d3] }
  | _ => none }
def BsetRangesWrongFalsely : Prop := bsetRangesRow.holds Try.pinned (OpenSpec.ofChange bsetRangesWrong)

/- THE SECOND FORM. 'bulk': how many values and letters a reading holds, each counted each time it is reached (what is shared counts as often as it is met; a slice's spare places count too). A statement '..UptoSaid' is the law's where the arguments, and the package variables that the reading takes, are together of bulk at most 1048576: NARROWER than '..Said'. Prove '..Said' where nothing that the law and all that it calls make is longer than what came in: it says more and counts as full. Else prove '..UptoSaid'. A law counts once. -/
mutual
def uptoBulk {H : Type} : DataW H → Nat
  | .lit (.string bytes) => bytes.length + 1
  | .lit _ => 1
  | .nil => 1
  | .ptr d => uptoBulk d + 1
  | .slice elems spare => uptoBulkAll elems + uptoBulkAll spare + 1
  | .agg parts => uptoBulkAll parts + 1
  | .iface _ d => uptoBulk d + 1
  | .map entries => uptoBulkEntries entries + 1
  | .held _ => 1
def uptoBulkAll {H : Type} : List (DataW H) → Nat
  | [] => 0
  | d :: r => uptoBulk d + uptoBulkAll r
def uptoBulkEntries {H : Type} : List (Lit × DataW H) → Nat
  | [] => 0
  | x :: r => uptoBulkEntry x + uptoBulkEntries r
def uptoBulkEntry {H : Type} : Lit × DataW H → Nat
  | (.string bytes, d) => bytes.length + uptoBulk d + 1
  | (_, d) => uptoBulk d + 1
 end
def uptoSmall : (H : Type) → List (DataW H) → Bool := fun _ ds => decide (uptoBulkAll ds ≤ 1048576)
def OpenSpec.upto (s : _root_.Go.ChangeSpec) : _root_.Go.OpenSpec := { _root_.Go.OpenSpec.ofChange s with cond := some uptoSmall }

/-- 'glosslaw2.BsetRuns', WHERE WHAT IT READS IS OF BULK AT MOST 1048576: true; the input reads as it did. -/
def bsetRunsUptoRow : OpenClaim := { program := "ytloljgnmmbndgaa", sum := "d044ec56769e4e66afa5bec26a5579b76b6ce8475978f950bc72dfa513541517", func := "gloss/glosslaw2.BsetRuns", spec := "bsetRuns", apart := false, narrowed := true }
def BsetRunsUptoSaid : Prop := bsetRunsUptoRow.holds Try.pinned (OpenSpec.upto bsetRunsSpec)

/-- 'glosslaw2.BsetClasses', WHERE WHAT IT READS IS OF BULK AT MOST 1048576: true; the input reads as it did. -/
def bsetClassesUptoRow : OpenClaim := { program := "ytloljgnmmbndgaa", sum := "d044ec56769e4e66afa5bec26a5579b76b6ce8475978f950bc72dfa513541517", func := "gloss/glosslaw2.BsetClasses", spec := "bsetClasses", apart := false, narrowed := true }
def BsetClassesUptoSaid : Prop := bsetClassesUptoRow.holds Try.pinned (OpenSpec.upto bsetClassesSpec)

/-- 'glosslaw2.BsetLaws', WHERE WHAT IT READS IS OF BULK AT MOST 1048576: true; the input reads as it did. -/
def bsetLawsUptoRow : OpenClaim := { program := "ytloljgnmmbndgaa", sum := "d044ec56769e4e66afa5bec26a5579b76b6ce8475978f950bc72dfa513541517", func := "gloss/glosslaw2.BsetLaws", spec := "bsetLaws", apart := false, narrowed := true }
def BsetLawsUptoSaid : Prop := bsetLawsUptoRow.holds Try.pinned (OpenSpec.upto bsetLawsSpec)

/-- 'glosslaw2.BsetTells', WHERE WHAT IT READS IS OF BULK AT MOST 1048576: true; the input reads as it did. -/
def bsetTellsUptoRow : OpenClaim := { program := "ytloljgnmmbndgaa", sum := "d044ec56769e4e66afa5bec26a5579b76b6ce8475978f950bc72dfa513541517", func := "gloss/glosslaw2.BsetTells", spec := "bsetTells", apart := false, narrowed := true }
def BsetTellsUptoSaid : Prop := bsetTellsUptoRow.holds Try.pinned (OpenSpec.upto bsetTellsSpec)

/-- 'glosslaw2.BsetRanges', WHERE WHAT IT READS IS OF BULK AT MOST 1048576: true; the input reads as it did. -/
def bsetRangesUptoRow : OpenClaim := { program := "ytloljgnmmbndgaa", sum := "d044ec56769e4e66afa5bec26a5579b76b6ce8475978f950bc72dfa513541517", func := "gloss/glosslaw2.BsetRanges", spec := "bsetRanges", apart := false, narrowed := true }
def BsetRangesUptoSaid : Prop := bsetRangesUptoRow.holds Try.pinned (OpenSpec.upto bsetRangesSpec)

end Rows
end Go.Proofs.Ytloljgnmmbndgaa
