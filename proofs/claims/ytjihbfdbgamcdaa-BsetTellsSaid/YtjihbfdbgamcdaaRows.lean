/-
  No cell of these rows narrows 'for every input' (looked for: loops, veiled, ifaces, maps, wideKeys, modest, calm, conditions, laid).
  DERIVED. THE GIVEN ROWS OF THIS SEAT. 7 by the template 'for every input the law returns true; each argument reads behind the call as it read before'; 0 by the template 'total and deterministic' (their statements: YtjihbfdbgamcdaaTotals.lean).
  GIVEN WITH THE SEED: the statements are not yours to turn. If you find one false, say at which input.
  Laid BY PROGRAM, IN A SANDBOX (cutbox-rows.mjs): the forced cells as the released guide's own fill.sh prints them over the translation 605de11b458bcc2f… (all of the seat's roots in one cut). By AI agents, Wed Nov 11 2026. No macro, syntax, notation, axiom, sorry.
-/
import Derived.Test.YtjihbfdbgamcdaaChecked
import GoSem.Claim
import GoSem.ClaimJoined
import GoSem.ClaimMapViews
import Derived.JoinedTies
import Derived.KernelRfl
namespace Go.Proofs.Ytjihbfdbgamcdaa
/- THE CELL 'sum', in the pinned program and in every row, IS THE sha256 OF THE DUMP (.gsa) THAT YtjihbfdbgamcdaaProg.lean LOADS. Nothing in Lean hashes anything: it is a label: what it is worth is what the hold of that sum in a sandbox is worth. -/
noncomputable def Try.pinned : Pinned := { name := "ytjihbfdbgamcdaa", sum := "605de11b458bcc2ff776803da77666c856d83f9a3907be0b89ab6a6bbe048041", checked := Try.checked }
namespace Rows
def none {H : Type} : Left H := { results := [], args := [] }

/-- 'glosslaw13.OutTells': WHATEVER THE INPUT: true; the input reads as it did. -/
def outTellsSpec : ChangeSpec := { name := "outTells", fn := fun _ => fun
  | [d1, d2] => { results := [.lit (.bool true)], args := [d1, d2] }
  | _ => none }
def outTellsRow : OpenClaim := { program := "ytjihbfdbgamcdaa", sum := "605de11b458bcc2ff776803da77666c856d83f9a3907be0b89ab6a6bbe048041", func := "gloss/glosslaw13.OutTells", spec := "outTells", inPlace := ["slices.overlaps[gloss/api.Out]", "internal/abi.NoEscape", "internal/bytealg.CountString", "internal/bytealg.IndexByteString", "internal/bytealg.IndexString"], unfollowed := true, recurses := true, named := ["internal/bytealg.MaxLen"], plainKeys := false, apart := false }
def OutTellsSaid : Prop := outTellsRow.holds Try.pinned (OpenSpec.ofChange outTellsSpec)

/-- ITS FALSE NEIGHBOUR: 'it returns false'. Refute it at one input. -/
def outTellsWrong : ChangeSpec := { name := "outTells", fn := fun _ => fun
  | [d1, d2] => { results := [.lit (.bool false)], args := [d1, d2] }
  | _ => none }
def OutTellsWrongFalsely : Prop := outTellsRow.holds Try.pinned (OpenSpec.ofChange outTellsWrong)

/-- 'glosslaw6.FindTells': WHATEVER THE INPUT: true; the input reads as it did. -/
def findTellsSpec : ChangeSpec := { name := "findTells", fn := fun _ => fun
  | [d1, d2, d3, d4, d5, d6] => { results := [.lit (.bool true)], args := [d1, d2, d3, d4, d5, d6] }
  | _ => none }
def findTellsRow : OpenClaim := { program := "ytjihbfdbgamcdaa", sum := "605de11b458bcc2ff776803da77666c856d83f9a3907be0b89ab6a6bbe048041", func := "gloss/glosslaw6.FindTells", spec := "findTells", inPlace := ["internal/bytealg.IndexByteString", "internal/bytealg.IndexString"], unfollowed := true, recurses := true, named := ["internal/bytealg.MaxLen"], plainKeys := false, apart := false }
def FindTellsSaid : Prop := findTellsRow.holds Try.pinned (OpenSpec.ofChange findTellsSpec)

/-- ITS FALSE NEIGHBOUR: 'it returns false'. Refute it at one input. -/
def findTellsWrong : ChangeSpec := { name := "findTells", fn := fun _ => fun
  | [d1, d2, d3, d4, d5, d6] => { results := [.lit (.bool false)], args := [d1, d2, d3, d4, d5, d6] }
  | _ => none }
def FindTellsWrongFalsely : Prop := findTellsRow.holds Try.pinned (OpenSpec.ofChange findTellsWrong)

/-- 'glosslaw6.FindParts': WHATEVER THE INPUT: true; the input reads as it did. -/
def findPartsSpec : ChangeSpec := { name := "findParts", fn := fun _ => fun
  | [d1, d2, d3, d4] => { results := [.lit (.bool true)], args := [d1, d2, d3, d4] }
  | _ => none }
def findPartsRow : OpenClaim := { program := "ytjihbfdbgamcdaa", sum := "605de11b458bcc2ff776803da77666c856d83f9a3907be0b89ab6a6bbe048041", func := "gloss/glosslaw6.FindParts", spec := "findParts", inPlace := ["internal/bytealg.IndexByteString", "internal/bytealg.IndexString"], unfollowed := true, recurses := true, named := ["internal/bytealg.MaxLen"], plainKeys := false, apart := false }
def FindPartsSaid : Prop := findPartsRow.holds Try.pinned (OpenSpec.ofChange findPartsSpec)

/-- ITS FALSE NEIGHBOUR: 'it returns false'. Refute it at one input. -/
def findPartsWrong : ChangeSpec := { name := "findParts", fn := fun _ => fun
  | [d1, d2, d3, d4] => { results := [.lit (.bool false)], args := [d1, d2, d3, d4] }
  | _ => none }
def FindPartsWrongFalsely : Prop := findPartsRow.holds Try.pinned (OpenSpec.ofChange findPartsWrong)

/-- 'glosslaw7.TplSubst': WHATEVER THE INPUT: true; the input reads as it did. -/
def tplSubstSpec : ChangeSpec := { name := "tplSubst", fn := fun _ => fun
  | [d1, d2, d3, d4, d5, d6] => { results := [.lit (.bool true)], args := [d1, d2, d3, d4, d5, d6] }
  | _ => none }
def tplSubstRow : OpenClaim := { program := "ytjihbfdbgamcdaa", sum := "605de11b458bcc2ff776803da77666c856d83f9a3907be0b89ab6a6bbe048041", func := "gloss/glosslaw7.TplSubst", spec := "tplSubst", inPlace := ["internal/bytealg.IndexByteString", "internal/bytealg.IndexString", "internal/abi.NoEscape"], unfollowed := true, recurses := true, named := ["internal/bytealg.MaxLen"], plainKeys := false, apart := false }
def TplSubstSaid : Prop := tplSubstRow.holds Try.pinned (OpenSpec.ofChange tplSubstSpec)

/-- ITS FALSE NEIGHBOUR: 'it returns false'. Refute it at one input. -/
def tplSubstWrong : ChangeSpec := { name := "tplSubst", fn := fun _ => fun
  | [d1, d2, d3, d4, d5, d6] => { results := [.lit (.bool false)], args := [d1, d2, d3, d4, d5, d6] }
  | _ => none }
def TplSubstWrongFalsely : Prop := tplSubstRow.holds Try.pinned (OpenSpec.ofChange tplSubstWrong)

/-- 'glosslaw5.WayLaws': WHATEVER THE INPUT: true; the input reads as it did. -/
def wayLawsSpec : ChangeSpec := { name := "wayLaws", fn := fun _ => fun
  | [d1, d2, d3, d4] => { results := [.lit (.bool true)], args := [d1, d2, d3, d4] }
  | _ => none }
def wayLawsRow : OpenClaim := { program := "ytjihbfdbgamcdaa", sum := "605de11b458bcc2ff776803da77666c856d83f9a3907be0b89ab6a6bbe048041", func := "gloss/glosslaw5.WayLaws", spec := "wayLaws", inPlace := ["internal/bytealg.IndexByteString", "internal/bytealg.IndexString"], unfollowed := true, recurses := true, named := ["internal/bytealg.MaxLen"], plainKeys := false, apart := false }
def WayLawsSaid : Prop := wayLawsRow.holds Try.pinned (OpenSpec.ofChange wayLawsSpec)

/-- ITS FALSE NEIGHBOUR: 'it returns false'. Refute it at one input. -/
def wayLawsWrong : ChangeSpec := { name := "wayLaws", fn := fun _ => fun
  | [d1, d2, d3, d4] => { results := [.lit (.bool false)], args := [d1, d2, d3, d4] }
  | _ => none }
def WayLawsWrongFalsely : Prop := wayLawsRow.holds Try.pinned (OpenSpec.ofChange wayLawsWrong)

/-- 'glosslaw5.WayTimes': WHATEVER THE INPUT: true; the input reads as it did. -/
def wayTimesSpec : ChangeSpec := { name := "wayTimes", fn := fun _ => fun
  | [d1, d2, d3, d4] => { results := [.lit (.bool true)], args := [d1, d2, d3, d4] }
  | _ => none }
def wayTimesRow : OpenClaim := { program := "ytjihbfdbgamcdaa", sum := "605de11b458bcc2ff776803da77666c856d83f9a3907be0b89ab6a6bbe048041", func := "gloss/glosslaw5.WayTimes", spec := "wayTimes", inPlace := ["internal/bytealg.IndexByteString", "internal/bytealg.IndexString"], unfollowed := true, recurses := true, named := ["internal/bytealg.MaxLen"], plainKeys := false, apart := false }
def WayTimesSaid : Prop := wayTimesRow.holds Try.pinned (OpenSpec.ofChange wayTimesSpec)

/-- ITS FALSE NEIGHBOUR: 'it returns false'. Refute it at one input. -/
def wayTimesWrong : ChangeSpec := { name := "wayTimes", fn := fun _ => fun
  | [d1, d2, d3, d4] => { results := [.lit (.bool false)], args := [d1, d2, d3, d4] }
  | _ => none }
def WayTimesWrongFalsely : Prop := wayTimesRow.holds Try.pinned (OpenSpec.ofChange wayTimesWrong)

/-- 'glosslaw2.BsetTells': WHATEVER THE INPUT: true; the input reads as it did. -/
def bsetTellsSpec : ChangeSpec := { name := "bsetTells", fn := fun _ => fun
  | [d1, d2, d3, d4, d5] => { results := [.lit (.bool true)], args := [d1, d2, d3, d4, d5] }
  | _ => none }
def bsetTellsRow : OpenClaim := { program := "ytjihbfdbgamcdaa", sum := "605de11b458bcc2ff776803da77666c856d83f9a3907be0b89ab6a6bbe048041", func := "gloss/glosslaw2.BsetTells", spec := "bsetTells", plainKeys := false, apart := false }
def BsetTellsSaid : Prop := bsetTellsRow.holds Try.pinned (OpenSpec.ofChange bsetTellsSpec)

/-- ITS FALSE NEIGHBOUR: 'it returns false'. Refute it at one input. -/
def bsetTellsWrong : ChangeSpec := { name := "bsetTells", fn := fun _ => fun
  | [d1, d2, d3, d4, d5] => { results := [.lit (.bool false)], args := [d1, d2, d3, d4, d5] }
  | _ => none }
def BsetTellsWrongFalsely : Prop := bsetTellsRow.holds Try.pinned (OpenSpec.ofChange bsetTellsWrong)

/- THE SECOND FORM. 'bulk': how many values and letters a reading holds, each counted each time it is reached (what is shared counts as often as it is met; a slice's spare places count too). A statement '..UptoSaid' is the law's where the arguments, and the package variables that the reading takes, are together of bulk at most 1048576: NARROWER than '..Said'. Prove '..Said' where nothing that the law and all that it calls make is longer than what came in: it says more and counts as full. Else prove '..UptoSaid'. A law counts once. -/
mutual
def uptoBulk {H : Type} : DataW H → Nat
  | .lit (.string bytes) => bytes.length + 1
  | .lit _ => 1
  | .nil => 1
  | .ptr d => uptoBulk d + 1
  | .slice elems spare => uptoBulkAll elems + uptoBulkAll spare + 1
  | .agg parts => uptoBulkAll parts + 1
  | .iface _ d => uptoBulk d + 1
  | .map entries => uptoBulkEntries entries + 1
  | .held _ => 1
def uptoBulkAll {H : Type} : List (DataW H) → Nat
  | [] => 0
  | d :: r => uptoBulk d + uptoBulkAll r
def uptoBulkEntries {H : Type} : List (Lit × DataW H) → Nat
  | [] => 0
  | x :: r => uptoBulkEntry x + uptoBulkEntries r
def uptoBulkEntry {H : Type} : Lit × DataW H → Nat
  | (.string bytes, d) => bytes.length + uptoBulk d + 1
  | (_, d) => uptoBulk d + 1
 end
def uptoSmall : (H : Type) → List (DataW H) → Bool := fun _ ds => decide (uptoBulkAll ds ≤ 1048576)
def OpenSpec.upto (s : _root_.Go.ChangeSpec) : _root_.Go.OpenSpec := { _root_.Go.OpenSpec.ofChange s with cond := some uptoSmall }

/-- 'glosslaw13.OutTells', WHERE WHAT IT READS IS OF BULK AT MOST 1048576: true; the input reads as it did. -/
def outTellsUptoRow : OpenClaim := { program := "ytjihbfdbgamcdaa", sum := "605de11b458bcc2ff776803da77666c856d83f9a3907be0b89ab6a6bbe048041", func := "gloss/glosslaw13.OutTells", spec := "outTells", inPlace := ["slices.overlaps[gloss/api.Out]", "internal/abi.NoEscape", "internal/bytealg.CountString", "internal/bytealg.IndexByteString", "internal/bytealg.IndexString"], unfollowed := true, recurses := true, named := ["internal/bytealg.MaxLen"], plainKeys := false, apart := false, narrowed := true }
def OutTellsUptoSaid : Prop := outTellsUptoRow.holds Try.pinned (OpenSpec.upto outTellsSpec)

/-- 'glosslaw6.FindTells', WHERE WHAT IT READS IS OF BULK AT MOST 1048576: true; the input reads as it did. -/
def findTellsUptoRow : OpenClaim := { program := "ytjihbfdbgamcdaa", sum := "605de11b458bcc2ff776803da77666c856d83f9a3907be0b89ab6a6bbe048041", func := "gloss/glosslaw6.FindTells", spec := "findTells", inPlace := ["internal/bytealg.IndexByteString", "internal/bytealg.IndexString"], unfollowed := true, recurses := true, named := ["internal/bytealg.MaxLen"], plainKeys := false, apart := false, narrowed := true }
def FindTellsUptoSaid : Prop := findTellsUptoRow.holds Try.pinned (OpenSpec.upto findTellsSpec)

/-- 'glosslaw6.FindParts', WHERE WHAT IT READS IS OF BULK AT MOST 1048576: true; the input reads as it did. -/
def findPartsUptoRow : OpenClaim := { program := "ytjihbfdbgamcdaa", sum := "605de11b458bcc2ff776803da77666c856d83f9a3907be0b89ab6a6bbe048041", func := "gloss/glosslaw6.FindParts", spec := "findParts", inPlace := ["internal/bytealg.IndexByteString", "internal/bytealg.IndexString"], unfollowed := true, recurses := true, named := ["internal/bytealg.MaxLen"], plainKeys := false, apart := false, narrowed := true }
def FindPartsUptoSaid : Prop := findPartsUptoRow.holds Try.pinned (OpenSpec.upto findPartsSpec)

/-- 'glosslaw7.TplSubst', WHERE WHAT IT READS IS OF BULK AT MOST 1048576: true; the input reads as it did. -/
def tplSubstUptoRow : OpenClaim := { program := "ytjihbfdbgamcdaa", sum := "605de11b458bcc2ff776803da77666c856d83f9a3907be0b89ab6a6bbe048041", func := "gloss/glosslaw7.TplSubst", spec := "tplSubst", inPlace := ["internal/bytealg.IndexByteString", "internal/bytealg.IndexString", "internal/abi.NoEscape"], unfollowed := true, recurses := true, named := ["internal/bytealg.MaxLen"], plainKeys := false, apart := false, narrowed := true }
def TplSubstUptoSaid : Prop := tplSubstUptoRow.holds Try.pinned (OpenSpec.upto tplSubstSpec)

/-- 'glosslaw5.WayLaws', WHERE WHAT IT READS IS OF BULK AT MOST 1048576: true; the input reads as it did. -/
def wayLawsUptoRow : OpenClaim := { program := "ytjihbfdbgamcdaa", sum := "605de11b458bcc2ff776803da77666c856d83f9a3907be0b89ab6a6bbe048041", func := "gloss/glosslaw5.WayLaws", spec := "wayLaws", inPlace := ["internal/bytealg.IndexByteString", "internal/bytealg.IndexString"], unfollowed := true, recurses := true, named := ["internal/bytealg.MaxLen"], plainKeys := false, apart := false, narrowed := true }
def WayLawsUptoSaid : Prop := wayLawsUptoRow.holds Try.pinned (OpenSpec.upto wayLawsSpec)

/-- 'glosslaw5.WayTimes', WHERE WHAT IT READS IS OF BULK AT MOST 1048576: true; the input reads as it did. -/
def wayTimesUptoRow : OpenClaim := { program := "ytjihbfdbgamcdaa", sum := "605de11b458bcc2ff776803da77666c856d83f9a3907be0b89ab6a6bbe048041", func := "gloss/glosslaw5.WayTimes", spec := "wayTimes", inPlace := ["internal/bytealg.IndexByteString", "internal/bytealg.IndexString"], unfollowed := true, recurses := true, named := ["internal/bytealg.MaxLen"], plainKeys := false, apart := false, narrowed := true }
def WayTimesUptoSaid : Prop := wayTimesUptoRow.holds Try.pinned (OpenSpec.upto wayTimesSpec)

/-- 'glosslaw2.BsetTells', WHERE WHAT IT READS IS OF BULK AT MOST 1048576: true; the input reads as it did. -/
def bsetTellsUptoRow : OpenClaim := { program := "ytjihbfdbgamcdaa", sum := "605de11b458bcc2ff776803da77666c856d83f9a3907be0b89ab6a6bbe048041", func := "gloss/glosslaw2.BsetTells", spec := "bsetTells", plainKeys := false, apart := false, narrowed := true }
def BsetTellsUptoSaid : Prop := bsetTellsUptoRow.holds Try.pinned (OpenSpec.upto bsetTellsSpec)

end Rows
end Go.Proofs.Ytjihbfdbgamcdaa
