/-
  No cell of these rows narrows 'for every input' (looked for: loops, veiled, ifaces, maps, wideKeys, modest, calm, conditions, laid).
  DERIVED. THE GIVEN ROWS OF THIS SEAT. 11 by the template 'for every input the law returns true; each argument reads behind the call as it read before'; 0 by the template 'total and deterministic' (their statements: YtenbclcfhjdcaaaTotals.lean).
  GIVEN WITH THE SEED: the statements are not yours to turn. If you find one false, say at which input.
  Laid BY PROGRAM, IN A SANDBOX (cutbox-rows.mjs): the forced cells as the released guide's own fill.sh prints them over the translation a054a284bb0c6725… (all of the seat's roots in one cut). By AI agents, Wed Nov 11 2026. No macro, syntax, notation, axiom, sorry.
-/
import Derived.Test.YtenbclcfhjdcaaaChecked
import GoSem.Claim
import GoSem.ClaimJoined
import GoSem.ClaimMapViews
import Derived.JoinedTies
import Derived.KernelRfl
namespace Go.Proofs.Ytenbclcfhjdcaaa
/- THE CELL 'sum', in the pinned program and in every row, IS THE sha256 OF THE DUMP (.gsa) THAT YtenbclcfhjdcaaaProg.lean LOADS. Nothing in Lean hashes anything: it is a label: what it is worth is what the hold of that sum in a sandbox is worth. -/
noncomputable def Try.pinned : Pinned := { name := "ytenbclcfhjdcaaa", sum := "a054a284bb0c67255aade9980fc9a2938b022dab3bbd43af49cfbd09deb376ef", checked := Try.checked }
namespace Rows
def none {H : Type} : Left H := { results := [], args := [] }

/-- 'incipitlaw23.DocsFinds': WHATEVER THE INPUT: true; the input reads as it did. -/
def docsFindsSpec : ChangeSpec := { name := "docsFinds", fn := fun _ => fun
  | [d] => { results := [.lit (.bool true)], args := [d] }
  | _ => none }
def docsFindsRow : OpenClaim := { program := "ytenbclcfhjdcaaa", sum := "a054a284bb0c67255aade9980fc9a2938b022dab3bbd43af49cfbd09deb376ef", func := "incipit/incipitlaw23.DocsFinds", spec := "docsFinds", unfollowed := true, recurses := true, apart := false }
def DocsFindsSaid : Prop := docsFindsRow.holds Try.pinned (OpenSpec.ofChange docsFindsSpec)

/-- ITS FALSE NEIGHBOUR: 'it returns false'. Refute it at one input. -/
def docsFindsWrong : ChangeSpec := { name := "docsFinds", fn := fun _ => fun
  | [d] => { results := [.lit (.bool false)], args := [d] }
  | _ => none }
def DocsFindsWrongFalsely : Prop := docsFindsRow.holds Try.pinned (OpenSpec.ofChange docsFindsWrong)

/-- 'incipitlaw09.LeafFinds': WHATEVER THE INPUT: true; the input reads as it did. -/
def leafFindsSpec : ChangeSpec := { name := "leafFinds", fn := fun _ => fun
  | [d1, d2] => { results := [.lit (.bool true)], args := [d1, d2] }
  | _ => none }
def leafFindsRow : OpenClaim := { program := "ytenbclcfhjdcaaa", sum := "a054a284bb0c67255aade9980fc9a2938b022dab3bbd43af49cfbd09deb376ef", func := "incipit/incipitlaw09.LeafFinds", spec := "leafFinds", unfollowed := true, recurses := true, apart := false }
def LeafFindsSaid : Prop := leafFindsRow.holds Try.pinned (OpenSpec.ofChange leafFindsSpec)

/-- ITS FALSE NEIGHBOUR: 'it returns false'. Refute it at one input. -/
def leafFindsWrong : ChangeSpec := { name := "leafFinds", fn := fun _ => fun
  | [d1, d2] => { results := [.lit (.bool false)], args := [d1, d2] }
  | _ => none }
def LeafFindsWrongFalsely : Prop := leafFindsRow.holds Try.pinned (OpenSpec.ofChange leafFindsWrong)

/-- 'incipitlaw23.DocsNil': WHATEVER THE INPUT: true; the input reads as it did. -/
def docsNilSpec : ChangeSpec := { name := "docsNil", fn := fun _ => fun
  | [d] => { results := [.lit (.bool true)], args := [d] }
  | _ => none }
def docsNilRow : OpenClaim := { program := "ytenbclcfhjdcaaa", sum := "a054a284bb0c67255aade9980fc9a2938b022dab3bbd43af49cfbd09deb376ef", func := "incipit/incipitlaw23.DocsNil", spec := "docsNil", unfollowed := true, recurses := true, apart := false }
def DocsNilSaid : Prop := docsNilRow.holds Try.pinned (OpenSpec.ofChange docsNilSpec)

/-- ITS FALSE NEIGHBOUR: 'it returns false'. Refute it at one input. -/
def docsNilWrong : ChangeSpec := { name := "docsNil", fn := fun _ => fun
  | [d] => { results := [.lit (.bool false)], args := [d] }
  | _ => none }
def DocsNilWrongFalsely : Prop := docsNilRow.holds Try.pinned (OpenSpec.ofChange docsNilWrong)

/-- 'incipitlaw09.LeafSplits': WHATEVER THE INPUT: true; the input reads as it did. -/
def leafSplitsSpec : ChangeSpec := { name := "leafSplits", fn := fun _ => fun
  | [d1, d2] => { results := [.lit (.bool true)], args := [d1, d2] }
  | _ => none }
def leafSplitsRow : OpenClaim := { program := "ytenbclcfhjdcaaa", sum := "a054a284bb0c67255aade9980fc9a2938b022dab3bbd43af49cfbd09deb376ef", func := "incipit/incipitlaw09.LeafSplits", spec := "leafSplits", unfollowed := true, recurses := true, apart := false }
def LeafSplitsSaid : Prop := leafSplitsRow.holds Try.pinned (OpenSpec.ofChange leafSplitsSpec)

/-- ITS FALSE NEIGHBOUR: 'it returns false'. Refute it at one input. -/
def leafSplitsWrong : ChangeSpec := { name := "leafSplits", fn := fun _ => fun
  | [d1, d2] => { results := [.lit (.bool false)], args := [d1, d2] }
  | _ => none }
def LeafSplitsWrongFalsely : Prop := leafSplitsRow.holds Try.pinned (OpenSpec.ofChange leafSplitsWrong)

/-- 'incipitlaw09.LeafReads': WHATEVER THE INPUT: true; the input reads as it did. -/
def leafReadsSpec : ChangeSpec := { name := "leafReads", fn := fun _ => fun
  | [d] => { results := [.lit (.bool true)], args := [d] }
  | _ => none }
def leafReadsRow : OpenClaim := { program := "ytenbclcfhjdcaaa", sum := "a054a284bb0c67255aade9980fc9a2938b022dab3bbd43af49cfbd09deb376ef", func := "incipit/incipitlaw09.LeafReads", spec := "leafReads", unfollowed := true, recurses := true, apart := false }
def LeafReadsSaid : Prop := leafReadsRow.holds Try.pinned (OpenSpec.ofChange leafReadsSpec)

/-- ITS FALSE NEIGHBOUR: 'it returns false'. Refute it at one input. -/
def leafReadsWrong : ChangeSpec := { name := "leafReads", fn := fun _ => fun
  | [d] => { results := [.lit (.bool false)], args := [d] }
  | _ => none }
def LeafReadsWrongFalsely : Prop := leafReadsRow.holds Try.pinned (OpenSpec.ofChange leafReadsWrong)

/-- 'incipitlaw09.LeafBytes': WHATEVER THE INPUT: true; the input reads as it did. -/
def leafBytesSpec : ChangeSpec := { name := "leafBytes", fn := fun _ => fun
  | [d] => { results := [.lit (.bool true)], args := [d] }
  | _ => none }
def leafBytesRow : OpenClaim := { program := "ytenbclcfhjdcaaa", sum := "a054a284bb0c67255aade9980fc9a2938b022dab3bbd43af49cfbd09deb376ef", func := "incipit/incipitlaw09.LeafBytes", spec := "leafBytes", unfollowed := true, recurses := true, apart := false }
def LeafBytesSaid : Prop := leafBytesRow.holds Try.pinned (OpenSpec.ofChange leafBytesSpec)

/-- ITS FALSE NEIGHBOUR: 'it returns false'. Refute it at one input. -/
def leafBytesWrong : ChangeSpec := { name := "leafBytes", fn := fun _ => fun
  | [d] => { results := [.lit (.bool false)], args := [d] }
  | _ => none }
def LeafBytesWrongFalsely : Prop := leafBytesRow.holds Try.pinned (OpenSpec.ofChange leafBytesWrong)

/-- 'incipitlaw09.LeafTurns': WHATEVER THE INPUT: true; the input reads as it did. -/
def leafTurnsSpec : ChangeSpec := { name := "leafTurns", fn := fun _ => fun
  | [d1, d2] => { results := [.lit (.bool true)], args := [d1, d2] }
  | _ => none }
def leafTurnsRow : OpenClaim := { program := "ytenbclcfhjdcaaa", sum := "a054a284bb0c67255aade9980fc9a2938b022dab3bbd43af49cfbd09deb376ef", func := "incipit/incipitlaw09.LeafTurns", spec := "leafTurns", inPlace := ["slices.overlaps[incipit/leaf.Entry]"], unfollowed := true, recurses := true, apart := false }
def LeafTurnsSaid : Prop := leafTurnsRow.holds Try.pinned (OpenSpec.ofChange leafTurnsSpec)

/-- ITS FALSE NEIGHBOUR: 'it returns false'. Refute it at one input. -/
def leafTurnsWrong : ChangeSpec := { name := "leafTurns", fn := fun _ => fun
  | [d1, d2] => { results := [.lit (.bool false)], args := [d1, d2] }
  | _ => none }
def LeafTurnsWrongFalsely : Prop := leafTurnsRow.holds Try.pinned (OpenSpec.ofChange leafTurnsWrong)

/-- 'incipitlaw25.CorpusFull': WHATEVER THE INPUT: true; the input reads as it did. -/
def corpusFullSpec : ChangeSpec := { name := "corpusFull", fn := fun _ => fun
  | [d1, d2] => { results := [.lit (.bool true)], args := [d1, d2] }
  | _ => none }
def corpusFullRow : OpenClaim := { program := "ytenbclcfhjdcaaa", sum := "a054a284bb0c67255aade9980fc9a2938b022dab3bbd43af49cfbd09deb376ef", func := "incipit/incipitlaw25.CorpusFull", spec := "corpusFull", inPlace := ["slices.overlaps[incipit/corpus.Doc]"], unfollowed := true, recurses := true, apart := false }
def CorpusFullSaid : Prop := corpusFullRow.holds Try.pinned (OpenSpec.ofChange corpusFullSpec)

/-- ITS FALSE NEIGHBOUR: 'it returns false'. Refute it at one input. -/
def corpusFullWrong : ChangeSpec := { name := "corpusFull", fn := fun _ => fun
  | [d1, d2] => { results := [.lit (.bool false)], args := [d1, d2] }
  | _ => none }
def CorpusFullWrongFalsely : Prop := corpusFullRow.holds Try.pinned (OpenSpec.ofChange corpusFullWrong)

/-- 'incipitlaw25.CorpusOrder': WHATEVER THE INPUT: true; the input reads as it did. -/
def corpusOrderSpec : ChangeSpec := { name := "corpusOrder", fn := fun _ => fun
  | [d1, d2] => { results := [.lit (.bool true)], args := [d1, d2] }
  | _ => none }
def corpusOrderRow : OpenClaim := { program := "ytenbclcfhjdcaaa", sum := "a054a284bb0c67255aade9980fc9a2938b022dab3bbd43af49cfbd09deb376ef", func := "incipit/incipitlaw25.CorpusOrder", spec := "corpusOrder", inPlace := ["slices.overlaps[incipit/corpus.Doc]"], unfollowed := true, recurses := true, apart := false }
def CorpusOrderSaid : Prop := corpusOrderRow.holds Try.pinned (OpenSpec.ofChange corpusOrderSpec)

/-- ITS FALSE NEIGHBOUR: 'it returns false'. Refute it at one input. -/
def corpusOrderWrong : ChangeSpec := { name := "corpusOrder", fn := fun _ => fun
  | [d1, d2] => { results := [.lit (.bool false)], args := [d1, d2] }
  | _ => none }
def CorpusOrderWrongFalsely : Prop := corpusOrderRow.holds Try.pinned (OpenSpec.ofChange corpusOrderWrong)

/-- 'incipitlaw25.CorpusPlays': WHATEVER THE INPUT: true; the input reads as it did. -/
def corpusPlaysSpec : ChangeSpec := { name := "corpusPlays", fn := fun _ => fun
  | [d1, d2] => { results := [.lit (.bool true)], args := [d1, d2] }
  | _ => none }
def corpusPlaysRow : OpenClaim := { program := "ytenbclcfhjdcaaa", sum := "a054a284bb0c67255aade9980fc9a2938b022dab3bbd43af49cfbd09deb376ef", func := "incipit/incipitlaw25.CorpusPlays", spec := "corpusPlays", inPlace := ["slices.overlaps[incipit/corpus.Doc]"], unfollowed := true, recurses := true, apart := false }
def CorpusPlaysSaid : Prop := corpusPlaysRow.holds Try.pinned (OpenSpec.ofChange corpusPlaysSpec)

/-- ITS FALSE NEIGHBOUR: 'it returns false'. Refute it at one input. -/
def corpusPlaysWrong : ChangeSpec := { name := "corpusPlays", fn := fun _ => fun
  | [d1, d2] => { results := [.lit (.bool false)], args := [d1, d2] }
  | _ => none }
def CorpusPlaysWrongFalsely : Prop := corpusPlaysRow.holds Try.pinned (OpenSpec.ofChange corpusPlaysWrong)

/-- 'incipitlaw25.CorpusNil': WHATEVER THE INPUT: true; the input reads as it did. -/
def corpusNilSpec : ChangeSpec := { name := "corpusNil", fn := fun _ => fun
  | [d] => { results := [.lit (.bool true)], args := [d] }
  | _ => none }
def corpusNilRow : OpenClaim := { program := "ytenbclcfhjdcaaa", sum := "a054a284bb0c67255aade9980fc9a2938b022dab3bbd43af49cfbd09deb376ef", func := "incipit/incipitlaw25.CorpusNil", spec := "corpusNil", inPlace := ["slices.overlaps[incipit/corpus.Doc]"], unfollowed := true, recurses := true, apart := false }
def CorpusNilSaid : Prop := corpusNilRow.holds Try.pinned (OpenSpec.ofChange corpusNilSpec)

/-- ITS FALSE NEIGHBOUR: 'it returns false'. Refute it at one input. -/
def corpusNilWrong : ChangeSpec := { name := "corpusNil", fn := fun _ => fun
  | [d] => { results := [.lit (.bool false)], args := [d] }
  | _ => none }
def CorpusNilWrongFalsely : Prop := corpusNilRow.holds Try.pinned (OpenSpec.ofChange corpusNilWrong)

/- THE SECOND FORM. 'bulk': how many values and letters a reading holds, each counted each time it is reached (what is shared counts as often as it is met; a slice's spare places count too). A statement '..UptoSaid' is the law's where the arguments, and the package variables that the reading takes, are together of bulk at most 1048576: NARROWER than '..Said'. Prove '..Said' where nothing that the law and all that it calls make is longer than what came in: it says more and counts as full. Else prove '..UptoSaid'. A law counts once. -/
mutual
def uptoBulk {H : Type} : DataW H → Nat
  | .lit (.string bytes) => bytes.length + 1
  | .lit _ => 1
  | .nil => 1
  | .ptr d => uptoBulk d + 1
  | .slice elems spare => uptoBulkAll elems + uptoBulkAll spare + 1
  | .agg parts => uptoBulkAll parts + 1
  | .iface _ d => uptoBulk d + 1
  | .map entries => uptoBulkEntries entries + 1
  | .held _ => 1
def uptoBulkAll {H : Type} : List (DataW H) → Nat
  | [] => 0
  | d :: r => uptoBulk d + uptoBulkAll r
def uptoBulkEntries {H : Type} : List (Lit × DataW H) → Nat
  | [] => 0
  | x :: r => uptoBulkEntry x + uptoBulkEntries r
def uptoBulkEntry {H : Type} : Lit × DataW H → Nat
  | (.string bytes, d) => bytes.length + uptoBulk d + 1
  | (_, d) => uptoBulk d + 1
 end
def uptoSmall : (H : Type) → List (DataW H) → Bool := fun _ ds => decide (uptoBulkAll ds ≤ 1048576)
def OpenSpec.upto (s : _root_.Go.ChangeSpec) : _root_.Go.OpenSpec := { _root_.Go.OpenSpec.ofChange s with cond := some uptoSmall }

/-- 'incipitlaw23.DocsFinds', WHERE WHAT IT READS IS OF BULK AT MOST 1048576: true; the input reads as it did. -/
def docsFindsUptoRow : OpenClaim := { program := "ytenbclcfhjdcaaa", sum := "a054a284bb0c67255aade9980fc9a2938b022dab3bbd43af49cfbd09deb376ef", func := "incipit/incipitlaw23.DocsFinds", spec := "docsFinds", unfollowed := true, recurses := true, apart := false, narrowed := true }
def DocsFindsUptoSaid : Prop := docsFindsUptoRow.holds Try.pinned (OpenSpec.upto docsFindsSpec)

/-- 'incipitlaw09.LeafFinds', WHERE WHAT IT READS IS OF BULK AT MOST 1048576: true; the input reads as it did. -/
def leafFindsUptoRow : OpenClaim := { program := "ytenbclcfhjdcaaa", sum := "a054a284bb0c67255aade9980fc9a2938b022dab3bbd43af49cfbd09deb376ef", func := "incipit/incipitlaw09.LeafFinds", spec := "leafFinds", unfollowed := true, recurses := true, apart := false, narrowed := true }
def LeafFindsUptoSaid : Prop := leafFindsUptoRow.holds Try.pinned (OpenSpec.upto leafFindsSpec)

/-- 'incipitlaw23.DocsNil', WHERE WHAT IT READS IS OF BULK AT MOST 1048576: true; the input reads as it did. -/
def docsNilUptoRow : OpenClaim := { program := "ytenbclcfhjdcaaa", sum := "a054a284bb0c67255aade9980fc9a2938b022dab3bbd43af49cfbd09deb376ef", func := "incipit/incipitlaw23.DocsNil", spec := "docsNil", unfollowed := true, recurses := true, apart := false, narrowed := true }
def DocsNilUptoSaid : Prop := docsNilUptoRow.holds Try.pinned (OpenSpec.upto docsNilSpec)

/-- 'incipitlaw09.LeafSplits', WHERE WHAT IT READS IS OF BULK AT MOST 1048576: true; the input reads as it did. -/
def leafSplitsUptoRow : OpenClaim := { program := "ytenbclcfhjdcaaa", sum := "a054a284bb0c67255aade9980fc9a2938b022dab3bbd43af49cfbd09deb376ef", func := "incipit/incipitlaw09.LeafSplits", spec := "leafSplits", unfollowed := true, recurses := true, apart := false, narrowed := true }
def LeafSplitsUptoSaid : Prop := leafSplitsUptoRow.holds Try.pinned (OpenSpec.upto leafSplitsSpec)

/-- 'incipitlaw09.LeafReads', WHERE WHAT IT READS IS OF BULK AT MOST 1048576: true; the input reads as it did. -/
def leafReadsUptoRow : OpenClaim := { program := "ytenbclcfhjdcaaa", sum := "a054a284bb0c67255aade9980fc9a2938b022dab3bbd43af49cfbd09deb376ef", func := "incipit/incipitlaw09.LeafReads", spec := "leafReads", unfollowed := true, recurses := true, apart := false, narrowed := true }
def LeafReadsUptoSaid : Prop := leafReadsUptoRow.holds Try.pinned (OpenSpec.upto leafReadsSpec)

/-- 'incipitlaw09.LeafBytes', WHERE WHAT IT READS IS OF BULK AT MOST 1048576: true; the input reads as it did. -/
def leafBytesUptoRow : OpenClaim := { program := "ytenbclcfhjdcaaa", sum := "a054a284bb0c67255aade9980fc9a2938b022dab3bbd43af49cfbd09deb376ef", func := "incipit/incipitlaw09.LeafBytes", spec := "leafBytes", unfollowed := true, recurses := true, apart := false, narrowed := true }
def LeafBytesUptoSaid : Prop := leafBytesUptoRow.holds Try.pinned (OpenSpec.upto leafBytesSpec)

/-- 'incipitlaw09.LeafTurns', WHERE WHAT IT READS IS OF BULK AT MOST 1048576: true; the input reads as it did. -/
def leafTurnsUptoRow : OpenClaim := { program := "ytenbclcfhjdcaaa", sum := "a054a284bb0c67255aade9980fc9a2938b022dab3bbd43af49cfbd09deb376ef", func := "incipit/incipitlaw09.LeafTurns", spec := "leafTurns", inPlace := ["slices.overlaps[incipit/leaf.Entry]"], unfollowed := true, recurses := true, apart := false, narrowed := true }
def LeafTurnsUptoSaid : Prop := leafTurnsUptoRow.holds Try.pinned (OpenSpec.upto leafTurnsSpec)

/-- 'incipitlaw25.CorpusFull', WHERE WHAT IT READS IS OF BULK AT MOST 1048576: true; the input reads as it did. -/
def corpusFullUptoRow : OpenClaim := { program := "ytenbclcfhjdcaaa", sum := "a054a284bb0c67255aade9980fc9a2938b022dab3bbd43af49cfbd09deb376ef", func := "incipit/incipitlaw25.CorpusFull", spec := "corpusFull", inPlace := ["slices.overlaps[incipit/corpus.Doc]"], unfollowed := true, recurses := true, apart := false, narrowed := true }
def CorpusFullUptoSaid : Prop := corpusFullUptoRow.holds Try.pinned (OpenSpec.upto corpusFullSpec)

/-- 'incipitlaw25.CorpusOrder', WHERE WHAT IT READS IS OF BULK AT MOST 1048576: true; the input reads as it did. -/
def corpusOrderUptoRow : OpenClaim := { program := "ytenbclcfhjdcaaa", sum := "a054a284bb0c67255aade9980fc9a2938b022dab3bbd43af49cfbd09deb376ef", func := "incipit/incipitlaw25.CorpusOrder", spec := "corpusOrder", inPlace := ["slices.overlaps[incipit/corpus.Doc]"], unfollowed := true, recurses := true, apart := false, narrowed := true }
def CorpusOrderUptoSaid : Prop := corpusOrderUptoRow.holds Try.pinned (OpenSpec.upto corpusOrderSpec)

/-- 'incipitlaw25.CorpusPlays', WHERE WHAT IT READS IS OF BULK AT MOST 1048576: true; the input reads as it did. -/
def corpusPlaysUptoRow : OpenClaim := { program := "ytenbclcfhjdcaaa", sum := "a054a284bb0c67255aade9980fc9a2938b022dab3bbd43af49cfbd09deb376ef", func := "incipit/incipitlaw25.CorpusPlays", spec := "corpusPlays", inPlace := ["slices.overlaps[incipit/corpus.Doc]"], unfollowed := true, recurses := true, apart := false, narrowed := true }
def CorpusPlaysUptoSaid : Prop := corpusPlaysUptoRow.holds Try.pinned (OpenSpec.upto corpusPlaysSpec)

/-- 'incipitlaw25.CorpusNil', WHERE WHAT IT READS IS OF BULK AT MOST 1048576: true; the input reads as it did. -/
def corpusNilUptoRow : OpenClaim := { program := "ytenbclcfhjdcaaa", sum := "a054a284bb0c67255aade9980fc9a2938b022dab3bbd43af49cfbd09deb376ef", func := "incipit/incipitlaw25.CorpusNil", spec := "corpusNil", inPlace := ["slices.overlaps[incipit/corpus.Doc]"], unfollowed := true, recurses := true, apart := false, narrowed := true }
def CorpusNilUptoSaid : Prop := corpusNilUptoRow.holds Try.pinned (OpenSpec.upto corpusNilSpec)

end Rows
end Go.Proofs.Ytenbclcfhjdcaaa
