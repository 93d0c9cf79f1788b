/-
  No cell of these rows narrows 'for every input' (looked for: loops, veiled, ifaces, maps, wideKeys, modest, calm, conditions, laid).
  DERIVED. THE GIVEN ROWS OF THIS SEAT. 6 by the template 'for every input the law returns true; each argument reads behind the call as it read before'; 0 by the template 'total and deterministic' (their statements: YtbkogefcjcokhaaTotals.lean).
  GIVEN WITH THE SEED: the statements are not yours to turn. If you find one false, say at which input.
  Laid BY PROGRAM, IN A SANDBOX (cutbox-rows.mjs): the forced cells as the released guide's own fill.sh prints them over the translation 3cb2ae8092a8949b… (all of the seat's roots in one cut). By AI agents, Wed Nov 11 2026. No macro, syntax, notation, axiom, sorry.
-/
import Derived.Test.YtbkogefcjcokhaaChecked
import GoSem.Claim
import GoSem.ClaimJoined
import GoSem.ClaimMapViews
import Derived.JoinedTies
import Derived.KernelRfl
namespace Go.Proofs.Ytbkogefcjcokhaa
/- THE CELL 'sum', in the pinned program and in every row, IS THE sha256 OF THE DUMP (.gsa) THAT YtbkogefcjcokhaaProg.lean LOADS. Nothing in Lean hashes anything: it is a label: what it is worth is what the hold of that sum in a sandbox is worth. -/
noncomputable def Try.pinned : Pinned := { name := "ytbkogefcjcokhaa", sum := "3cb2ae8092a8949bf7755460a9200dd01ce170f894cb787293f679f0fcb4f8b1", checked := Try.checked }
namespace Rows
def none {H : Type} : Left H := { results := [], args := [] }

/-- 'graftwoodlaw11.EdgesChange': WHATEVER THE INPUT: true; the input reads as it did. -/
def edgesChangeSpec : ChangeSpec := { name := "edgesChange", fn := fun _ => fun
  | [d1, d2, d3] => { results := [.lit (.bool true)], args := [d1, d2, d3] }
  | _ => none }
def edgesChangeRow : OpenClaim := { program := "ytbkogefcjcokhaa", sum := "3cb2ae8092a8949bf7755460a9200dd01ce170f894cb787293f679f0fcb4f8b1", func := "graftwood/graftwoodlaw11.EdgesChange", spec := "edgesChange", inPlace := ["slices.overlaps[graftwood/api.Edge]"], unfollowed := true, recurses := true, apart := false }
def EdgesChangeSaid : Prop := edgesChangeRow.holds Try.pinned (OpenSpec.ofChange edgesChangeSpec)

/-- ITS FALSE NEIGHBOUR: 'it returns false'. Refute it at one input. -/
def edgesChangeWrong : ChangeSpec := { name := "edgesChange", fn := fun _ => fun
  | [d1, d2, d3] => { results := [.lit (.bool false)], args := [d1, d2, d3] }
  | _ => none }
def EdgesChangeWrongFalsely : Prop := edgesChangeRow.holds Try.pinned (OpenSpec.ofChange edgesChangeWrong)

/-- 'graftwoodlaw11.EdgesBack': WHATEVER THE INPUT: true; the input reads as it did. -/
def edgesBackSpec : ChangeSpec := { name := "edgesBack", fn := fun _ => fun
  | [d1, d2] => { results := [.lit (.bool true)], args := [d1, d2] }
  | _ => none }
def edgesBackRow : OpenClaim := { program := "ytbkogefcjcokhaa", sum := "3cb2ae8092a8949bf7755460a9200dd01ce170f894cb787293f679f0fcb4f8b1", func := "graftwood/graftwoodlaw11.EdgesBack", spec := "edgesBack", inPlace := ["slices.overlaps[graftwood/api.Edge]"], unfollowed := true, recurses := true, apart := false }
def EdgesBackSaid : Prop := edgesBackRow.holds Try.pinned (OpenSpec.ofChange edgesBackSpec)

/-- ITS FALSE NEIGHBOUR: 'it returns false'. Refute it at one input. -/
def edgesBackWrong : ChangeSpec := { name := "edgesBack", fn := fun _ => fun
  | [d1, d2] => { results := [.lit (.bool false)], args := [d1, d2] }
  | _ => none }
def EdgesBackWrongFalsely : Prop := edgesBackRow.holds Try.pinned (OpenSpec.ofChange edgesBackWrong)

/-- 'graftwoodlaw11.EdgesSums': WHATEVER THE INPUT: true; the input reads as it did. -/
def edgesSumsSpec : ChangeSpec := { name := "edgesSums", fn := fun _ => fun
  | [d1, d2, d3] => { results := [.lit (.bool true)], args := [d1, d2, d3] }
  | _ => none }
def edgesSumsRow : OpenClaim := { program := "ytbkogefcjcokhaa", sum := "3cb2ae8092a8949bf7755460a9200dd01ce170f894cb787293f679f0fcb4f8b1", func := "graftwood/graftwoodlaw11.EdgesSums", spec := "edgesSums", inPlace := ["slices.overlaps[graftwood/api.Edge]"], unfollowed := true, recurses := true, apart := false }
def EdgesSumsSaid : Prop := edgesSumsRow.holds Try.pinned (OpenSpec.ofChange edgesSumsSpec)

/-- ITS FALSE NEIGHBOUR: 'it returns false'. Refute it at one input. -/
def edgesSumsWrong : ChangeSpec := { name := "edgesSums", fn := fun _ => fun
  | [d1, d2, d3] => { results := [.lit (.bool false)], args := [d1, d2, d3] }
  | _ => none }
def EdgesSumsWrongFalsely : Prop := edgesSumsRow.holds Try.pinned (OpenSpec.ofChange edgesSumsWrong)

/-- 'graftwoodlaw11.EdgesEnds': WHATEVER THE INPUT: true; the input reads as it did. -/
def edgesEndsSpec : ChangeSpec := { name := "edgesEnds", fn := fun _ => fun
  | [d1, d2] => { results := [.lit (.bool true)], args := [d1, d2] }
  | _ => none }
def edgesEndsRow : OpenClaim := { program := "ytbkogefcjcokhaa", sum := "3cb2ae8092a8949bf7755460a9200dd01ce170f894cb787293f679f0fcb4f8b1", func := "graftwood/graftwoodlaw11.EdgesEnds", spec := "edgesEnds", inPlace := ["slices.overlaps[graftwood/api.Edge]"], unfollowed := true, recurses := true, apart := false }
def EdgesEndsSaid : Prop := edgesEndsRow.holds Try.pinned (OpenSpec.ofChange edgesEndsSpec)

/-- ITS FALSE NEIGHBOUR: 'it returns false'. Refute it at one input. -/
def edgesEndsWrong : ChangeSpec := { name := "edgesEnds", fn := fun _ => fun
  | [d1, d2] => { results := [.lit (.bool false)], args := [d1, d2] }
  | _ => none }
def EdgesEndsWrongFalsely : Prop := edgesEndsRow.holds Try.pinned (OpenSpec.ofChange edgesEndsWrong)

/-- 'graftwoodlaw11.EdgesWays': WHATEVER THE INPUT: true; the input reads as it did. -/
def edgesWaysSpec : ChangeSpec := { name := "edgesWays", fn := fun _ => fun
  | [d1, d2, d3] => { results := [.lit (.bool true)], args := [d1, d2, d3] }
  | _ => none }
def edgesWaysRow : OpenClaim := { program := "ytbkogefcjcokhaa", sum := "3cb2ae8092a8949bf7755460a9200dd01ce170f894cb787293f679f0fcb4f8b1", func := "graftwood/graftwoodlaw11.EdgesWays", spec := "edgesWays", inPlace := ["slices.overlaps[graftwood/api.Edge]"], unfollowed := true, recurses := true, apart := false }
def EdgesWaysSaid : Prop := edgesWaysRow.holds Try.pinned (OpenSpec.ofChange edgesWaysSpec)

/-- ITS FALSE NEIGHBOUR: 'it returns false'. Refute it at one input. -/
def edgesWaysWrong : ChangeSpec := { name := "edgesWays", fn := fun _ => fun
  | [d1, d2, d3] => { results := [.lit (.bool false)], args := [d1, d2, d3] }
  | _ => none }
def EdgesWaysWrongFalsely : Prop := edgesWaysRow.holds Try.pinned (OpenSpec.ofChange edgesWaysWrong)

/-- 'graftwoodlaw11.EdgesTells': WHATEVER THE INPUT: true; the input reads as it did. -/
def edgesTellsSpec : ChangeSpec := { name := "edgesTells", fn := fun _ => fun
  | [d1, d2, d3] => { results := [.lit (.bool true)], args := [d1, d2, d3] }
  | _ => none }
def edgesTellsRow : OpenClaim := { program := "ytbkogefcjcokhaa", sum := "3cb2ae8092a8949bf7755460a9200dd01ce170f894cb787293f679f0fcb4f8b1", func := "graftwood/graftwoodlaw11.EdgesTells", spec := "edgesTells", inPlace := ["slices.overlaps[graftwood/api.Edge]"], unfollowed := true, recurses := true, apart := false }
def EdgesTellsSaid : Prop := edgesTellsRow.holds Try.pinned (OpenSpec.ofChange edgesTellsSpec)

/-- ITS FALSE NEIGHBOUR: 'it returns false'. Refute it at one input. -/
def edgesTellsWrong : ChangeSpec := { name := "edgesTells", fn := fun _ => fun
  | [d1, d2, d3] => { results := [.lit (.bool false)], args := [d1, d2, d3] }
  | _ => none }
def EdgesTellsWrongFalsely : Prop := edgesTellsRow.holds Try.pinned (OpenSpec.ofChange edgesTellsWrong)

/- THE SECOND FORM. 'bulk': how many values and letters a reading holds, each counted each time it is reached (what is shared counts as often as it is met; a slice's spare places count too). A statement '..UptoSaid' is the law's where the arguments, and the package variables that the reading takes, are together of bulk at most 1048576: NARROWER than '..Said'. Prove '..Said' where nothing that the law and all that it calls make is longer than what came in: it says more and counts as full. Else prove '..UptoSaid'. A law counts once. -/
mutual
def uptoBulk {H : Type} : DataW H → Nat
  | .lit (.string bytes) => bytes.length + 1
  | .lit _ => 1
  | .nil => 1
  | .ptr d => uptoBulk d + 1
  | .slice elems spare => uptoBulkAll elems + uptoBulkAll spare + 1
  | .agg parts => uptoBulkAll parts + 1
  | .iface _ d => uptoBulk d + 1
  | .map entries => uptoBulkEntries entries + 1
  | .held _ => 1
def uptoBulkAll {H : Type} : List (DataW H) → Nat
  | [] => 0
  | d :: r => uptoBulk d + uptoBulkAll r
def uptoBulkEntries {H : Type} : List (Lit × DataW H) → Nat
  | [] => 0
  | x :: r => uptoBulkEntry x + uptoBulkEntries r
def uptoBulkEntry {H : Type} : Lit × DataW H → Nat
  | (.string bytes, d) => bytes.length + uptoBulk d + 1
  | (_, d) => uptoBulk d + 1
 end
def uptoSmall : (H : Type) → List (DataW H) → Bool := fun _ ds => decide (uptoBulkAll ds ≤ 1048576)
def OpenSpec.upto (s : _root_.Go.ChangeSpec) : _root_.Go.OpenSpec := { _root_.Go.OpenSpec.ofChange s with cond := some uptoSmall }

/-- 'graftwoodlaw11.EdgesChange', WHERE WHAT IT READS IS OF BULK AT MOST 1048576: true; the input reads as it did. -/
def edgesChangeUptoRow : OpenClaim := { program := "ytbkogefcjcokhaa", sum := "3cb2ae8092a8949bf7755460a9200dd01ce170f894cb787293f679f0fcb4f8b1", func := "graftwood/graftwoodlaw11.EdgesChange", spec := "edgesChange", inPlace := ["slices.overlaps[graftwood/api.Edge]"], unfollowed := true, recurses := true, apart := false, narrowed := true }
def EdgesChangeUptoSaid : Prop := edgesChangeUptoRow.holds Try.pinned (OpenSpec.upto edgesChangeSpec)

/-- 'graftwoodlaw11.EdgesBack', WHERE WHAT IT READS IS OF BULK AT MOST 1048576: true; the input reads as it did. -/
def edgesBackUptoRow : OpenClaim := { program := "ytbkogefcjcokhaa", sum := "3cb2ae8092a8949bf7755460a9200dd01ce170f894cb787293f679f0fcb4f8b1", func := "graftwood/graftwoodlaw11.EdgesBack", spec := "edgesBack", inPlace := ["slices.overlaps[graftwood/api.Edge]"], unfollowed := true, recurses := true, apart := false, narrowed := true }
def EdgesBackUptoSaid : Prop := edgesBackUptoRow.holds Try.pinned (OpenSpec.upto edgesBackSpec)

/-- 'graftwoodlaw11.EdgesSums', WHERE WHAT IT READS IS OF BULK AT MOST 1048576: true; the input reads as it did. -/
def edgesSumsUptoRow : OpenClaim := { program := "ytbkogefcjcokhaa", sum := "3cb2ae8092a8949bf7755460a9200dd01ce170f894cb787293f679f0fcb4f8b1", func := "graftwood/graftwoodlaw11.EdgesSums", spec := "edgesSums", inPlace := ["slices.overlaps[graftwood/api.Edge]"], unfollowed := true, recurses := true, apart := false, narrowed := true }
def EdgesSumsUptoSaid : Prop := edgesSumsUptoRow.holds Try.pinned (OpenSpec.upto edgesSumsSpec)

/-- 'graftwoodlaw11.EdgesEnds', WHERE WHAT IT READS IS OF BULK AT MOST 1048576: true; the input reads as it did. -/
def edgesEndsUptoRow : OpenClaim := { program := "ytbkogefcjcokhaa", sum := "3cb2ae8092a8949bf7755460a9200dd01ce170f894cb787293f679f0fcb4f8b1", func := "graftwood/graftwoodlaw11.EdgesEnds", spec := "edgesEnds", inPlace := ["slices.overlaps[graftwood/api.Edge]"], unfollowed := true, recurses := true, apart := false, narrowed := true }
def EdgesEndsUptoSaid : Prop := edgesEndsUptoRow.holds Try.pinned (OpenSpec.upto edgesEndsSpec)

/-- 'graftwoodlaw11.EdgesWays', WHERE WHAT IT READS IS OF BULK AT MOST 1048576: true; the input reads as it did. -/
def edgesWaysUptoRow : OpenClaim := { program := "ytbkogefcjcokhaa", sum := "3cb2ae8092a8949bf7755460a9200dd01ce170f894cb787293f679f0fcb4f8b1", func := "graftwood/graftwoodlaw11.EdgesWays", spec := "edgesWays", inPlace := ["slices.overlaps[graftwood/api.Edge]"], unfollowed := true, recurses := true, apart := false, narrowed := true }
def EdgesWaysUptoSaid : Prop := edgesWaysUptoRow.holds Try.pinned (OpenSpec.upto edgesWaysSpec)

/-- 'graftwoodlaw11.EdgesTells', WHERE WHAT IT READS IS OF BULK AT MOST 1048576: true; the input reads as it did. -/
def edgesTellsUptoRow : OpenClaim := { program := "ytbkogefcjcokhaa", sum := "3cb2ae8092a8949bf7755460a9200dd01ce170f894cb787293f679f0fcb4f8b1", func := "graftwood/graftwoodlaw11.EdgesTells", spec := "edgesTells", inPlace := ["slices.overlaps[graftwood/api.Edge]"], unfollowed := true, recurses := true, apart := false, narrowed := true }
def EdgesTellsUptoSaid : Prop := edgesTellsUptoRow.holds Try.pinned (OpenSpec.upto edgesTellsSpec)

end Rows
end Go.Proofs.Ytbkogefcjcokhaa
