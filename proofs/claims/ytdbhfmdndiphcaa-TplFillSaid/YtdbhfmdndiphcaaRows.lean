/-
  No cell of these rows narrows 'for every input' (looked for: loops, veiled, ifaces, maps, wideKeys, modest, calm, conditions, laid).
  DERIVED. THE GIVEN ROWS OF THIS SEAT. 12 by the template 'for every input the law returns true; each argument reads behind the call as it read before'; 0 by the template 'total and deterministic' (their statements: YtdbhfmdndiphcaaTotals.lean).
  GIVEN WITH THE SEED: the statements are not yours to turn. If you find one false, say at which input.
  Laid BY PROGRAM, IN A SANDBOX (cutbox-rows.mjs): the forced cells as the released guide's own fill.sh prints them over the translation 4671b8fc5f227b35… (all of the seat's roots in one cut). By AI agents, Wed Nov 11 2026. No macro, syntax, notation, axiom, sorry.
-/
import Derived.Test.YtdbhfmdndiphcaaChecked
import GoSem.Claim
import GoSem.ClaimJoined
import GoSem.ClaimMapViews
import Derived.JoinedTies
import Derived.KernelRfl
namespace Go.Proofs.Ytdbhfmdndiphcaa
/- THE CELL 'sum', in the pinned program and in every row, IS THE sha256 OF THE DUMP (.gsa) THAT YtdbhfmdndiphcaaProg.lean LOADS. Nothing in Lean hashes anything: it is a label: what it is worth is what the hold of that sum in a sandbox is worth. -/
noncomputable def Try.pinned : Pinned := { name := "ytdbhfmdndiphcaa", sum := "4671b8fc5f227b352c612076bb361927ec24151639975a554c9770efd137e707", checked := Try.checked }
namespace Rows
def none {H : Type} : Left H := { results := [], args := [] }

/-- 'glosslaw13.OutTells': WHATEVER THE INPUT: true; the input reads as it did. -/
def outTellsSpec : ChangeSpec := { name := "outTells", fn := fun _ => fun
  | [d1, d2] => { results := [.lit (.bool true)], args := [d1, d2] }
  | _ => none }
def outTellsRow : OpenClaim := { program := "ytdbhfmdndiphcaa", sum := "4671b8fc5f227b352c612076bb361927ec24151639975a554c9770efd137e707", func := "gloss/glosslaw13.OutTells", spec := "outTells", inPlace := ["slices.overlaps[gloss/api.Out]", "internal/abi.NoEscape", "internal/bytealg.CountString", "internal/bytealg.IndexByteString", "internal/bytealg.IndexString"], unfollowed := true, recurses := true, named := ["internal/bytealg.MaxLen"], plainKeys := false, apart := false }
def OutTellsSaid : Prop := outTellsRow.holds Try.pinned (OpenSpec.ofChange outTellsSpec)

/-- ITS FALSE NEIGHBOUR: 'it returns false'. Refute it at one input. -/
def outTellsWrong : ChangeSpec := { name := "outTells", fn := fun _ => fun
  | [d1, d2] => { results := [.lit (.bool false)], args := [d1, d2] }
  | _ => none }
def OutTellsWrongFalsely : Prop := outTellsRow.holds Try.pinned (OpenSpec.ofChange outTellsWrong)

/-- 'glosslaw13.OutParts': WHATEVER THE INPUT: true; the input reads as it did. -/
def outPartsSpec : ChangeSpec := { name := "outParts", fn := fun _ => fun
  | [d1, d2, d3] => { results := [.lit (.bool true)], args := [d1, d2, d3] }
  | _ => none }
def outPartsRow : OpenClaim := { program := "ytdbhfmdndiphcaa", sum := "4671b8fc5f227b352c612076bb361927ec24151639975a554c9770efd137e707", func := "gloss/glosslaw13.OutParts", spec := "outParts", inPlace := ["internal/abi.NoEscape", "slices.overlaps[gloss/api.Out]", "internal/bytealg.CountString", "internal/bytealg.IndexByteString", "internal/bytealg.IndexString"], unfollowed := true, recurses := true, named := ["internal/bytealg.MaxLen"], plainKeys := false, apart := false }
def OutPartsSaid : Prop := outPartsRow.holds Try.pinned (OpenSpec.ofChange outPartsSpec)

/-- ITS FALSE NEIGHBOUR: 'it returns false'. Refute it at one input. -/
def outPartsWrong : ChangeSpec := { name := "outParts", fn := fun _ => fun
  | [d1, d2, d3] => { results := [.lit (.bool false)], args := [d1, d2, d3] }
  | _ => none }
def OutPartsWrongFalsely : Prop := outPartsRow.holds Try.pinned (OpenSpec.ofChange outPartsWrong)

/-- 'glosslaw6.FindAll': WHATEVER THE INPUT: true; the input reads as it did. -/
def findAllSpec : ChangeSpec := { name := "findAll", fn := fun _ => fun
  | [d1, d2, d3] => { results := [.lit (.bool true)], args := [d1, d2, d3] }
  | _ => none }
def findAllRow : OpenClaim := { program := "ytdbhfmdndiphcaa", sum := "4671b8fc5f227b352c612076bb361927ec24151639975a554c9770efd137e707", func := "gloss/glosslaw6.FindAll", spec := "findAll", inPlace := ["internal/bytealg.IndexByteString", "internal/bytealg.IndexString"], unfollowed := true, recurses := true, named := ["internal/bytealg.MaxLen"], plainKeys := false, apart := false }
def FindAllSaid : Prop := findAllRow.holds Try.pinned (OpenSpec.ofChange findAllSpec)

/-- ITS FALSE NEIGHBOUR: 'it returns false'. Refute it at one input. -/
def findAllWrong : ChangeSpec := { name := "findAll", fn := fun _ => fun
  | [d1, d2, d3] => { results := [.lit (.bool false)], args := [d1, d2, d3] }
  | _ => none }
def FindAllWrongFalsely : Prop := findAllRow.holds Try.pinned (OpenSpec.ofChange findAllWrong)

/-- 'glosslaw6.FindGroups': WHATEVER THE INPUT: true; the input reads as it did. -/
def findGroupsSpec : ChangeSpec := { name := "findGroups", fn := fun _ => fun
  | [d1, d2, d3, d4] => { results := [.lit (.bool true)], args := [d1, d2, d3, d4] }
  | _ => none }
def findGroupsRow : OpenClaim := { program := "ytdbhfmdndiphcaa", sum := "4671b8fc5f227b352c612076bb361927ec24151639975a554c9770efd137e707", func := "gloss/glosslaw6.FindGroups", spec := "findGroups", inPlace := ["internal/bytealg.IndexByteString", "internal/bytealg.IndexString"], unfollowed := true, recurses := true, named := ["internal/bytealg.MaxLen"], plainKeys := false, apart := false }
def FindGroupsSaid : Prop := findGroupsRow.holds Try.pinned (OpenSpec.ofChange findGroupsSpec)

/-- ITS FALSE NEIGHBOUR: 'it returns false'. Refute it at one input. -/
def findGroupsWrong : ChangeSpec := { name := "findGroups", fn := fun _ => fun
  | [d1, d2, d3, d4] => { results := [.lit (.bool false)], args := [d1, d2, d3, d4] }
  | _ => none }
def FindGroupsWrongFalsely : Prop := findGroupsRow.holds Try.pinned (OpenSpec.ofChange findGroupsWrong)

/-- 'glosslaw6.FindTells': WHATEVER THE INPUT: true; the input reads as it did. -/
def findTellsSpec : ChangeSpec := { name := "findTells", fn := fun _ => fun
  | [d1, d2, d3, d4, d5, d6] => { results := [.lit (.bool true)], args := [d1, d2, d3, d4, d5, d6] }
  | _ => none }
def findTellsRow : OpenClaim := { program := "ytdbhfmdndiphcaa", sum := "4671b8fc5f227b352c612076bb361927ec24151639975a554c9770efd137e707", func := "gloss/glosslaw6.FindTells", spec := "findTells", inPlace := ["internal/bytealg.IndexByteString", "internal/bytealg.IndexString"], unfollowed := true, recurses := true, named := ["internal/bytealg.MaxLen"], plainKeys := false, apart := false }
def FindTellsSaid : Prop := findTellsRow.holds Try.pinned (OpenSpec.ofChange findTellsSpec)

/-- ITS FALSE NEIGHBOUR: 'it returns false'. Refute it at one input. -/
def findTellsWrong : ChangeSpec := { name := "findTells", fn := fun _ => fun
  | [d1, d2, d3, d4, d5, d6] => { results := [.lit (.bool false)], args := [d1, d2, d3, d4, d5, d6] }
  | _ => none }
def FindTellsWrongFalsely : Prop := findTellsRow.holds Try.pinned (OpenSpec.ofChange findTellsWrong)

/-- 'glosslaw6.FindText': WHATEVER THE INPUT: true; the input reads as it did. -/
def findTextSpec : ChangeSpec := { name := "findText", fn := fun _ => fun
  | [d1, d2] => { results := [.lit (.bool true)], args := [d1, d2] }
  | _ => none }
def findTextRow : OpenClaim := { program := "ytdbhfmdndiphcaa", sum := "4671b8fc5f227b352c612076bb361927ec24151639975a554c9770efd137e707", func := "gloss/glosslaw6.FindText", spec := "findText", inPlace := ["internal/bytealg.IndexByteString", "internal/bytealg.IndexString"], unfollowed := true, recurses := true, named := ["internal/bytealg.MaxLen"], plainKeys := false, apart := false }
def FindTextSaid : Prop := findTextRow.holds Try.pinned (OpenSpec.ofChange findTextSpec)

/-- ITS FALSE NEIGHBOUR: 'it returns false'. Refute it at one input. -/
def findTextWrong : ChangeSpec := { name := "findText", fn := fun _ => fun
  | [d1, d2] => { results := [.lit (.bool false)], args := [d1, d2] }
  | _ => none }
def FindTextWrongFalsely : Prop := findTextRow.holds Try.pinned (OpenSpec.ofChange findTextWrong)

/-- 'glosslaw6.FindAnchors': WHATEVER THE INPUT: true; the input reads as it did. -/
def findAnchorsSpec : ChangeSpec := { name := "findAnchors", fn := fun _ => fun
  | [d] => { results := [.lit (.bool true)], args := [d] }
  | _ => none }
def findAnchorsRow : OpenClaim := { program := "ytdbhfmdndiphcaa", sum := "4671b8fc5f227b352c612076bb361927ec24151639975a554c9770efd137e707", func := "gloss/glosslaw6.FindAnchors", spec := "findAnchors", inPlace := ["internal/bytealg.IndexByteString", "internal/bytealg.IndexString"], unfollowed := true, recurses := true, named := ["internal/bytealg.MaxLen"], plainKeys := false, apart := false }
def FindAnchorsSaid : Prop := findAnchorsRow.holds Try.pinned (OpenSpec.ofChange findAnchorsSpec)

/-- ITS FALSE NEIGHBOUR: 'it returns false'. Refute it at one input. -/
def findAnchorsWrong : ChangeSpec := { name := "findAnchors", fn := fun _ => fun
  | [d] => { results := [.lit (.bool false)], args := [d] }
  | _ => none }
def FindAnchorsWrongFalsely : Prop := findAnchorsRow.holds Try.pinned (OpenSpec.ofChange findAnchorsWrong)

/-- 'glosslaw6.FindParts': WHATEVER THE INPUT: true; the input reads as it did. -/
def findPartsSpec : ChangeSpec := { name := "findParts", fn := fun _ => fun
  | [d1, d2, d3, d4] => { results := [.lit (.bool true)], args := [d1, d2, d3, d4] }
  | _ => none }
def findPartsRow : OpenClaim := { program := "ytdbhfmdndiphcaa", sum := "4671b8fc5f227b352c612076bb361927ec24151639975a554c9770efd137e707", func := "gloss/glosslaw6.FindParts", spec := "findParts", inPlace := ["internal/bytealg.IndexByteString", "internal/bytealg.IndexString"], unfollowed := true, recurses := true, named := ["internal/bytealg.MaxLen"], plainKeys := false, apart := false }
def FindPartsSaid : Prop := findPartsRow.holds Try.pinned (OpenSpec.ofChange findPartsSpec)

/-- ITS FALSE NEIGHBOUR: 'it returns false'. Refute it at one input. -/
def findPartsWrong : ChangeSpec := { name := "findParts", fn := fun _ => fun
  | [d1, d2, d3, d4] => { results := [.lit (.bool false)], args := [d1, d2, d3, d4] }
  | _ => none }
def FindPartsWrongFalsely : Prop := findPartsRow.holds Try.pinned (OpenSpec.ofChange findPartsWrong)

/-- 'glosslaw7.TplLaws': WHATEVER THE INPUT: true; the input reads as it did. -/
def tplLawsSpec : ChangeSpec := { name := "tplLaws", fn := fun _ => fun
  | [d1, d2, d3] => { results := [.lit (.bool true)], args := [d1, d2, d3] }
  | _ => none }
def tplLawsRow : OpenClaim := { program := "ytdbhfmdndiphcaa", sum := "4671b8fc5f227b352c612076bb361927ec24151639975a554c9770efd137e707", func := "gloss/glosslaw7.TplLaws", spec := "tplLaws", inPlace := ["internal/abi.NoEscape", "internal/bytealg.IndexByteString", "internal/bytealg.IndexString"], unfollowed := true, recurses := true, named := ["internal/bytealg.MaxLen"], plainKeys := false, apart := false }
def TplLawsSaid : Prop := tplLawsRow.holds Try.pinned (OpenSpec.ofChange tplLawsSpec)

/-- ITS FALSE NEIGHBOUR: 'it returns false'. Refute it at one input. -/
def tplLawsWrong : ChangeSpec := { name := "tplLaws", fn := fun _ => fun
  | [d1, d2, d3] => { results := [.lit (.bool false)], args := [d1, d2, d3] }
  | _ => none }
def TplLawsWrongFalsely : Prop := tplLawsRow.holds Try.pinned (OpenSpec.ofChange tplLawsWrong)

/-- 'glosslaw7.TplNth': WHATEVER THE INPUT: true; the input reads as it did. -/
def tplNthSpec : ChangeSpec := { name := "tplNth", fn := fun _ => fun
  | [d1, d2] => { results := [.lit (.bool true)], args := [d1, d2] }
  | _ => none }
def tplNthRow : OpenClaim := { program := "ytdbhfmdndiphcaa", sum := "4671b8fc5f227b352c612076bb361927ec24151639975a554c9770efd137e707", func := "gloss/glosslaw7.TplNth", spec := "tplNth", inPlace := ["internal/abi.NoEscape", "internal/bytealg.IndexByteString", "internal/bytealg.IndexString"], unfollowed := true, recurses := true, named := ["internal/bytealg.MaxLen"], plainKeys := false, apart := false }
def TplNthSaid : Prop := tplNthRow.holds Try.pinned (OpenSpec.ofChange tplNthSpec)

/-- ITS FALSE NEIGHBOUR: 'it returns false'. Refute it at one input. -/
def tplNthWrong : ChangeSpec := { name := "tplNth", fn := fun _ => fun
  | [d1, d2] => { results := [.lit (.bool false)], args := [d1, d2] }
  | _ => none }
def TplNthWrongFalsely : Prop := tplNthRow.holds Try.pinned (OpenSpec.ofChange tplNthWrong)

/-- 'glosslaw7.TplFill': WHATEVER THE INPUT: true; the input reads as it did. -/
def tplFillSpec : ChangeSpec := { name := "tplFill", fn := fun _ => fun
  | [d1, d2, d3, d4] => { results := [.lit (.bool true)], args := [d1, d2, d3, d4] }
  | _ => none }
def tplFillRow : OpenClaim := { program := "ytdbhfmdndiphcaa", sum := "4671b8fc5f227b352c612076bb361927ec24151639975a554c9770efd137e707", func := "gloss/glosslaw7.TplFill", spec := "tplFill", inPlace := ["internal/abi.NoEscape", "internal/bytealg.IndexByteString", "internal/bytealg.IndexString"], unfollowed := true, recurses := true, named := ["internal/bytealg.MaxLen"], plainKeys := false, apart := false }
def TplFillSaid : Prop := tplFillRow.holds Try.pinned (OpenSpec.ofChange tplFillSpec)

/-- ITS FALSE NEIGHBOUR: 'it returns false'. Refute it at one input. -/
def tplFillWrong : ChangeSpec := { name := "tplFill", fn := fun _ => fun
  | [d1, d2, d3, d4] => { results := [.lit (.bool false)], args := [d1, d2, d3, d4] }
  | _ => none }
def TplFillWrongFalsely : Prop := tplFillRow.holds Try.pinned (OpenSpec.ofChange tplFillWrong)

/-- 'glosslaw7.TplSubst': WHATEVER THE INPUT: true; the input reads as it did. -/
def tplSubstSpec : ChangeSpec := { name := "tplSubst", fn := fun _ => fun
  | [d1, d2, d3, d4, d5, d6] => { results := [.lit (.bool true)], args := [d1, d2, d3, d4, d5, d6] }
  | _ => none }
def tplSubstRow : OpenClaim := { program := "ytdbhfmdndiphcaa", sum := "4671b8fc5f227b352c612076bb361927ec24151639975a554c9770efd137e707", func := "gloss/glosslaw7.TplSubst", spec := "tplSubst", inPlace := ["internal/bytealg.IndexByteString", "internal/bytealg.IndexString", "internal/abi.NoEscape"], unfollowed := true, recurses := true, named := ["internal/bytealg.MaxLen"], plainKeys := false, apart := false }
def TplSubstSaid : Prop := tplSubstRow.holds Try.pinned (OpenSpec.ofChange tplSubstSpec)

/-- ITS FALSE NEIGHBOUR: 'it returns false'. Refute it at one input. -/
def tplSubstWrong : ChangeSpec := { name := "tplSubst", fn := fun _ => fun
  | [d1, d2, d3, d4, d5, d6] => { results := [.lit (.bool false)], args := [d1, d2, d3, d4, d5, d6] }
  | _ => none }
def TplSubstWrongFalsely : Prop := tplSubstRow.holds Try.pinned (OpenSpec.ofChange tplSubstWrong)

/- THE SECOND FORM. 'bulk': how many values and letters a reading holds, each counted each time it is reached (what is shared counts as often as it is met; a slice's spare places count too). A statement '..UptoSaid' is the law's where the arguments, and the package variables that the reading takes, are together of bulk at most 1048576: NARROWER than '..Said'. Prove '..Said' where nothing that the law and all that it calls make is longer than what came in: it says more and counts as full. Else prove '..UptoSaid'. A law counts once. -/
mutual
def uptoBulk {H : Type} : DataW H → Nat
  | .lit (.string bytes) => bytes.length + 1
  | .lit _ => 1
  | .nil => 1
  | .ptr d => uptoBulk d + 1
  | .slice elems spare => uptoBulkAll elems + uptoBulkAll spare + 1
  | .agg parts => uptoBulkAll parts + 1
  | .iface _ d => uptoBulk d + 1
  | .map entries => uptoBulkEntries entries + 1
  | .held _ => 1
def uptoBulkAll {H : Type} : List (DataW H) → Nat
  | [] => 0
  | d :: r => uptoBulk d + uptoBulkAll r
def uptoBulkEntries {H : Type} : List (Lit × DataW H) → Nat
  | [] => 0
  | x :: r => uptoBulkEntry x + uptoBulkEntries r
def uptoBulkEntry {H : Type} : Lit × DataW H → Nat
  | (.string bytes, d) => bytes.length + uptoBulk d + 1
  | (_, d) => uptoBulk d + 1
 end
def uptoSmall : (H : Type) → List (DataW H) → Bool := fun _ ds => decide (uptoBulkAll ds ≤ 1048576)
def OpenSpec.upto (s : _root_.Go.ChangeSpec) : _root_.Go.OpenSpec := { _root_.Go.OpenSpec.ofChange s with cond := some uptoSmall }

/-- 'glosslaw13.OutTells', WHERE WHAT IT READS IS OF BULK AT MOST 1048576: true; the input reads as it did. -/
def outTellsUptoRow : OpenClaim := { program := "ytdbhfmdndiphcaa", sum := "4671b8fc5f227b352c612076bb361927ec24151639975a554c9770efd137e707", func := "gloss/glosslaw13.OutTells", spec := "outTells", inPlace := ["slices.overlaps[gloss/api.Out]", "internal/abi.NoEscape", "internal/bytealg.CountString", "internal/bytealg.IndexByteString", "internal/bytealg.IndexString"], unfollowed := true, recurses := true, named := ["internal/bytealg.MaxLen"], plainKeys := false, apart := false, narrowed := true }
def OutTellsUptoSaid : Prop := outTellsUptoRow.holds Try.pinned (OpenSpec.upto outTellsSpec)

/-- 'glosslaw13.OutParts', WHERE WHAT IT READS IS OF BULK AT MOST 1048576: true; the input reads as it did. -/
def outPartsUptoRow : OpenClaim := { program := "ytdbhfmdndiphcaa", sum := "4671b8fc5f227b352c612076bb361927ec24151639975a554c9770efd137e707", func := "gloss/glosslaw13.OutParts", spec := "outParts", inPlace := ["internal/abi.NoEscape", "slices.overlaps[gloss/api.Out]", "internal/bytealg.CountString", "internal/bytealg.IndexByteString", "internal/bytealg.IndexString"], unfollowed := true, recurses := true, named := ["internal/bytealg.MaxLen"], plainKeys := false, apart := false, narrowed := true }
def OutPartsUptoSaid : Prop := outPartsUptoRow.holds Try.pinned (OpenSpec.upto outPartsSpec)

/-- 'glosslaw6.FindAll', WHERE WHAT IT READS IS OF BULK AT MOST 1048576: true; the input reads as it did. -/
def findAllUptoRow : OpenClaim := { program := "ytdbhfmdndiphcaa", sum := "4671b8fc5f227b352c612076bb361927ec24151639975a554c9770efd137e707", func := "gloss/glosslaw6.FindAll", spec := "findAll", inPlace := ["internal/bytealg.IndexByteString", "internal/bytealg.IndexString"], unfollowed := true, recurses := true, named := ["internal/bytealg.MaxLen"], plainKeys := false, apart := false, narrowed := true }
def FindAllUptoSaid : Prop := findAllUptoRow.holds Try.pinned (OpenSpec.upto findAllSpec)

/-- 'glosslaw6.FindGroups', WHERE WHAT IT READS IS OF BULK AT MOST 1048576: true; the input reads as it did. -/
def findGroupsUptoRow : OpenClaim := { program := "ytdbhfmdndiphcaa", sum := "4671b8fc5f227b352c612076bb361927ec24151639975a554c9770efd137e707", func := "gloss/glosslaw6.FindGroups", spec := "findGroups", inPlace := ["internal/bytealg.IndexByteString", "internal/bytealg.IndexString"], unfollowed := true, recurses := true, named := ["internal/bytealg.MaxLen"], plainKeys := false, apart := false, narrowed := true }
def FindGroupsUptoSaid : Prop := findGroupsUptoRow.holds Try.pinned (OpenSpec.upto findGroupsSpec)

/-- 'glosslaw6.FindTells', WHERE WHAT IT READS IS OF BULK AT MOST 1048576: true; the input reads as it did. -/
def findTellsUptoRow : OpenClaim := { program := "ytdbhfmdndiphcaa", sum := "4671b8fc5f227b352c612076bb361927ec24151639975a554c9770efd137e707", func := "gloss/glosslaw6.FindTells", spec := "findTells", inPlace := ["internal/bytealg.IndexByteString", "internal/bytealg.IndexString"], unfollowed := true, recurses := true, named := ["internal/bytealg.MaxLen"], plainKeys := false, apart := false, narrowed := true }
def FindTellsUptoSaid : Prop := findTellsUptoRow.holds Try.pinned (OpenSpec.upto findTellsSpec)

/-- 'glosslaw6.FindText', WHERE WHAT IT READS IS OF BULK AT MOST 1048576: true; the input reads as it did. -/
def findTextUptoRow : OpenClaim := { program := "ytdbhfmdndiphcaa", sum := "4671b8fc5f227b352c612076bb361927ec24151639975a554c9770efd137e707", func := "gloss/glosslaw6.FindText", spec := "findText", inPlace := ["internal/bytealg.IndexByteString", "internal/bytealg.IndexString"], unfollowed := true, recurses := true, named := ["internal/bytealg.MaxLen"], plainKeys := false, apart := false, narrowed := true }
def FindTextUptoSaid : Prop := findTextUptoRow.holds Try.pinned (OpenSpec.upto findTextSpec)

/-- 'glosslaw6.FindAnchors', WHERE WHAT IT READS IS OF BULK AT MOST 1048576: true; the input reads as it did. -/
def findAnchorsUptoRow : OpenClaim := { program := "ytdbhfmdndiphcaa", sum := "4671b8fc5f227b352c612076bb361927ec24151639975a554c9770efd137e707", func := "gloss/glosslaw6.FindAnchors", spec := "findAnchors", inPlace := ["internal/bytealg.IndexByteString", "internal/bytealg.IndexString"], unfollowed := true, recurses := true, named := ["internal/bytealg.MaxLen"], plainKeys := false, apart := false, narrowed := true }
def FindAnchorsUptoSaid : Prop := findAnchorsUptoRow.holds Try.pinned (OpenSpec.upto findAnchorsSpec)

/-- 'glosslaw6.FindParts', WHERE WHAT IT READS IS OF BULK AT MOST 1048576: true; the input reads as it did. -/
def findPartsUptoRow : OpenClaim := { program := "ytdbhfmdndiphcaa", sum := "4671b8fc5f227b352c612076bb361927ec24151639975a554c9770efd137e707", func := "gloss/glosslaw6.FindParts", spec := "findParts", inPlace := ["internal/bytealg.IndexByteString", "internal/bytealg.IndexString"], unfollowed := true, recurses := true, named := ["internal/bytealg.MaxLen"], plainKeys := false, apart := false, narrowed := true }
def FindPartsUptoSaid : Prop := findPartsUptoRow.holds Try.pinned (OpenSpec.upto findPartsSpec)

/-- 'glosslaw7.TplLaws', WHERE WHAT IT READS IS OF BULK AT MOST 1048576: true; the input reads as it did. -/
def tplLawsUptoRow : OpenClaim := { program := "ytdbhfmdndiphcaa", sum := "4671b8fc5f227b352c612076bb361927ec24151639975a554c9770efd137e707", func := "gloss/glosslaw7.TplLaws", spec := "tplLaws", inPlace := ["internal/abi.NoEscape", "internal/bytealg.IndexByteString", "internal/bytealg.IndexString"], unfollowed := true, recurses := true, named := ["internal/bytealg.MaxLen"], plainKeys := false, apart := false, narrowed := true }
def TplLawsUptoSaid : Prop := tplLawsUptoRow.holds Try.pinned (OpenSpec.upto tplLawsSpec)

/-- 'glosslaw7.TplNth', WHERE WHAT IT READS IS OF BULK AT MOST 1048576: true; the input reads as it did. -/
def tplNthUptoRow : OpenClaim := { program := "ytdbhfmdndiphcaa", sum := "4671b8fc5f227b352c612076bb361927ec24151639975a554c9770efd137e707", func := "gloss/glosslaw7.TplNth", spec := "tplNth", inPlace := ["internal/abi.NoEscape", "internal/bytealg.IndexByteString", "internal/bytealg.IndexString"], unfollowed := true, recurses := true, named := ["internal/bytealg.MaxLen"], plainKeys := false, apart := false, narrowed := true }
def TplNthUptoSaid : Prop := tplNthUptoRow.holds Try.pinned (OpenSpec.upto tplNthSpec)

/-- 'glosslaw7.TplFill', WHERE WHAT IT READS IS OF BULK AT MOST 1048576: true; the input reads as it did. -/
def tplFillUptoRow : OpenClaim := { program := "ytdbhfmdndiphcaa", sum := "4671b8fc5f227b352c612076bb361927ec24151639975a554c9770efd137e707", func := "gloss/glosslaw7.TplFill", spec := "tplFill", inPlace := ["internal/abi.NoEscape", "internal/bytealg.IndexByteString", "internal/bytealg.IndexString"], unfollowed := true, recurses := true, named := ["internal/bytealg.MaxLen"], plainKeys := false, apart := false, narrowed := true }
def TplFillUptoSaid : Prop := tplFillUptoRow.holds Try.pinned (OpenSpec.upto tplFillSpec)

/-- 'glosslaw7.TplSubst', WHERE WHAT IT READS IS OF BULK AT MOST 1048576: true; the input reads as it did. -/
def tplSubstUptoRow : OpenClaim := { program := "ytdbhfmdndiphcaa", sum := "4671b8fc5f227b352c612076bb361927ec24151639975a554c9770efd137e707", func := "gloss/glosslaw7.TplSubst", spec := "tplSubst", inPlace := ["internal/bytealg.IndexByteString", "internal/bytealg.IndexString", "internal/abi.NoEscape"], unfollowed := true, recurses := true, named := ["internal/bytealg.MaxLen"], plainKeys := false, apart := false, narrowed := true }
def TplSubstUptoSaid : Prop := tplSubstUptoRow.holds Try.pinned (OpenSpec.upto tplSubstSpec)

end Rows
end Go.Proofs.Ytdbhfmdndiphcaa
