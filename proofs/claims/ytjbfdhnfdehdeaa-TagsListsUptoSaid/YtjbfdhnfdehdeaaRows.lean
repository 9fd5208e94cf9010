/-
  No cell of these rows narrows 'for every input' (looked for: loops, veiled, ifaces, maps, wideKeys, modest, calm, conditions, laid).
  DERIVED. THE GIVEN ROWS OF THIS SEAT. 5 by the template 'for every input the law returns true; each argument reads behind the call as it read before'; 0 by the template 'total and deterministic' (their statements: YtjbfdhnfdehdeaaTotals.lean).
  GIVEN WITH THE SEED: the statements are not yours to turn. If you find one false, say at which input.
  Laid BY PROGRAM, IN A SANDBOX (cutbox-rows.mjs): the forced cells as the released guide's own fill.sh prints them over the translation 5e74e1cb8a45f156… (all of the seat's roots in one cut). By AI agents, Wed Nov 11 2026. No macro, syntax, notation, axiom, sorry.
-/
import Derived.Test.YtjbfdhnfdehdeaaChecked
import GoSem.Claim
import GoSem.ClaimJoined
import GoSem.ClaimMapViews
import Derived.JoinedTies
import Derived.KernelRfl
namespace Go.Proofs.Ytjbfdhnfdehdeaa
/- THE CELL 'sum', in the pinned program and in every row, IS THE sha256 OF THE DUMP (.gsa) THAT YtjbfdhnfdehdeaaProg.lean LOADS. Nothing in Lean hashes anything: it is a label: what it is worth is what the hold of that sum in a sandbox is worth. -/
noncomputable def Try.pinned : Pinned := { name := "ytjbfdhnfdehdeaa", sum := "5e74e1cb8a45f156d69f31a3255727833ae6691558dd3b5f044ac2cef7213ed0", checked := Try.checked }
namespace Rows
def none {H : Type} : Left H := { results := [], args := [] }

/-- 'joistlaw11.TagsWrites': WHATEVER THE INPUT: true; the input reads as it did. -/
def tagsWritesSpec : ChangeSpec := { name := "tagsWrites", fn := fun _ => fun
  | [d1, d2, d3, d4, d5] => { results := [.lit (.bool true)], args := [d1, d2, d3, d4, d5] }
  | _ => none }
def tagsWritesRow : OpenClaim := { program := "ytjbfdhnfdehdeaa", sum := "5e74e1cb8a45f156d69f31a3255727833ae6691558dd3b5f044ac2cef7213ed0", func := "joist/joistlaw11.TagsWrites", spec := "tagsWrites", unfollowed := true, recurses := true, apart := false }
def TagsWritesSaid : Prop := tagsWritesRow.holds Try.pinned (OpenSpec.ofChange tagsWritesSpec)

/-- ITS FALSE NEIGHBOUR: 'it returns false'. Refute it at one input. -/
def tagsWritesWrong : ChangeSpec := { name := "tagsWrites", fn := fun _ => fun
  | [d1, d2, d3, d4, d5] => { results := [.lit (.bool false)], args := [d1, d2, d3, d4, d5] }
  | _ => none }
def TagsWritesWrongFalsely : Prop := tagsWritesRow.holds Try.pinned (OpenSpec.ofChange tagsWritesWrong)

/-- 'joistlaw11.TagsReads': WHATEVER THE INPUT: true; the input reads as it did. -/
def tagsReadsSpec : ChangeSpec := { name := "tagsReads", fn := fun _ => fun
  | [d1, d2, d3, d4] => { results := [.lit (.bool true)], args := [d1, d2, d3, d4] }
  | _ => none }
def tagsReadsRow : OpenClaim := { program := "ytjbfdhnfdehdeaa", sum := "5e74e1cb8a45f156d69f31a3255727833ae6691558dd3b5f044ac2cef7213ed0", func := "joist/joistlaw11.TagsReads", spec := "tagsReads", unfollowed := true, recurses := true, apart := false }
def TagsReadsSaid : Prop := tagsReadsRow.holds Try.pinned (OpenSpec.ofChange tagsReadsSpec)

/-- ITS FALSE NEIGHBOUR: 'it returns false'. Refute it at one input. -/
def tagsReadsWrong : ChangeSpec := { name := "tagsReads", fn := fun _ => fun
  | [d1, d2, d3, d4] => { results := [.lit (.bool false)], args := [d1, d2, d3, d4] }
  | _ => none }
def TagsReadsWrongFalsely : Prop := tagsReadsRow.holds Try.pinned (OpenSpec.ofChange tagsReadsWrong)

/-- 'joistlaw11.TagsWalks': WHATEVER THE INPUT: true; the input reads as it did. -/
def tagsWalksSpec : ChangeSpec := { name := "tagsWalks", fn := fun _ => fun
  | [d1, d2, d3, d4] => { results := [.lit (.bool true)], args := [d1, d2, d3, d4] }
  | _ => none }
def tagsWalksRow : OpenClaim := { program := "ytjbfdhnfdehdeaa", sum := "5e74e1cb8a45f156d69f31a3255727833ae6691558dd3b5f044ac2cef7213ed0", func := "joist/joistlaw11.TagsWalks", spec := "tagsWalks", unfollowed := true, recurses := true, apart := false }
def TagsWalksSaid : Prop := tagsWalksRow.holds Try.pinned (OpenSpec.ofChange tagsWalksSpec)

/-- ITS FALSE NEIGHBOUR: 'it returns false'. Refute it at one input. -/
def tagsWalksWrong : ChangeSpec := { name := "tagsWalks", fn := fun _ => fun
  | [d1, d2, d3, d4] => { results := [.lit (.bool false)], args := [d1, d2, d3, d4] }
  | _ => none }
def TagsWalksWrongFalsely : Prop := tagsWalksRow.holds Try.pinned (OpenSpec.ofChange tagsWalksWrong)

/-- 'joistlaw11.TagsLists': WHATEVER THE INPUT: true; the input reads as it did. -/
def tagsListsSpec : ChangeSpec := { name := "tagsLists", fn := fun _ => fun
  | [d1, d2, d3, d4, d5, d6] => { results := [.lit (.bool true)], args := [d1, d2, d3, d4, d5, d6] }
  | _ => none }
def tagsListsRow : OpenClaim := { program := "ytjbfdhnfdehdeaa", sum := "5e74e1cb8a45f156d69f31a3255727833ae6691558dd3b5f044ac2cef7213ed0", func := "joist/joistlaw11.TagsLists", spec := "tagsLists", unfollowed := true, recurses := true, apart := false }
def TagsListsSaid : Prop := tagsListsRow.holds Try.pinned (OpenSpec.ofChange tagsListsSpec)

/-- ITS FALSE NEIGHBOUR: 'it returns false'. Refute it at one input. -/
def tagsListsWrong : ChangeSpec := { name := "tagsLists", fn := fun _ => fun
  | [d1, d2, d3, d4, d5, d6] => { results := [.lit (.bool false)], args := [d1, d2, d3, d4, d5, d6] }
  | _ => none }
def TagsListsWrongFalsely : Prop := tagsListsRow.holds Try.pinned (OpenSpec.ofChange tagsListsWrong)

/-- 'joistlaw11.TagsBack': WHATEVER THE INPUT: true; the input reads as it did. -/
def tagsBackSpec : ChangeSpec := { name := "tagsBack", fn := fun _ => fun
  | [d1, d2, d3, d4, d5, d6] => { results := [.lit (.bool true)], args := [d1, d2, d3, d4, d5, d6] }
  | _ => none }
def tagsBackRow : OpenClaim := { program := "ytjbfdhnfdehdeaa", sum := "5e74e1cb8a45f156d69f31a3255727833ae6691558dd3b5f044ac2cef7213ed0", func := "joist/joistlaw11.TagsBack", spec := "tagsBack", unfollowed := true, recurses := true, apart := false }
def TagsBackSaid : Prop := tagsBackRow.holds Try.pinned (OpenSpec.ofChange tagsBackSpec)

/-- ITS FALSE NEIGHBOUR: 'it returns false'. Refute it at one input. -/
def tagsBackWrong : ChangeSpec := { name := "tagsBack", fn := fun _ => fun
  | [d1, d2, d3, d4, d5, d6] => { results := [.lit (.bool false)], args := [d1, d2, d3, d4, d5, d6] }
  | _ => none }
def TagsBackWrongFalsely : Prop := tagsBackRow.holds Try.pinned (OpenSpec.ofChange tagsBackWrong)

/- THE SECOND FORM. 'bulk': how many values and letters a reading holds, each counted each time it is reached (what is shared counts as often as it is met; a slice's spare places count too). A statement '..UptoSaid' is the law's where the arguments, and the package variables that the reading takes, are together of bulk at most 1048576: NARROWER than '..Said'. Prove '..Said' where nothing that the law and all that it calls make is longer than what came in: it says more and counts as full. Else prove '..UptoSaid'. A law counts once. -/
mutual
def uptoBulk {H : Type} : DataW H → Nat
  | .lit (.string bytes) => bytes.length + 1
  | .lit _ => 1
  | .nil => 1
  | .ptr d => uptoBulk d + 1
  | .slice elems spare => uptoBulkAll elems + uptoBulkAll spare + 1
  | .agg parts => uptoBulkAll parts + 1
  | .iface _ d => uptoBulk d + 1
  | .map entries => uptoBulkEntries entries + 1
  | .held _ => 1
def uptoBulkAll {H : Type} : List (DataW H) → Nat
  | [] => 0
  | d :: r => uptoBulk d + uptoBulkAll r
def uptoBulkEntries {H : Type} : List (Lit × DataW H) → Nat
  | [] => 0
  | x :: r => uptoBulkEntry x + uptoBulkEntries r
def uptoBulkEntry {H : Type} : Lit × DataW H → Nat
  | (.string bytes, d) => bytes.length + uptoBulk d + 1
  | (_, d) => uptoBulk d + 1
 end
def uptoSmall : (H : Type) → List (DataW H) → Bool := fun _ ds => decide (uptoBulkAll ds ≤ 1048576)
def OpenSpec.upto (s : _root_.Go.ChangeSpec) : _root_.Go.OpenSpec := { _root_.Go.OpenSpec.ofChange s with cond := some uptoSmall }

/-- 'joistlaw11.TagsWrites', WHERE WHAT IT READS IS OF BULK AT MOST 1048576: true; the input reads as it did. -/
def tagsWritesUptoRow : OpenClaim := { program := "ytjbfdhnfdehdeaa", sum := "5e74e1cb8a45f156d69f31a3255727833ae6691558dd3b5f044ac2cef7213ed0", func := "joist/joistlaw11.TagsWrites", spec := "tagsWrites", unfollowed := true, recurses := true, apart := false, narrowed := true }
def TagsWritesUptoSaid : Prop := tagsWritesUptoRow.holds Try.pinned (OpenSpec.upto tagsWritesSpec)

/-- 'joistlaw11.TagsReads', WHERE WHAT IT READS IS OF BULK AT MOST 1048576: true; the input reads as it did. -/
def tagsReadsUptoRow : OpenClaim := { program := "ytjbfdhnfdehdeaa", sum := "5e74e1cb8a45f156d69f31a3255727833ae6691558dd3b5f044ac2cef7213ed0", func := "joist/joistlaw11.TagsReads", spec := "tagsReads", unfollowed := true, recurses := true, apart := false, narrowed := true }
def TagsReadsUptoSaid : Prop := tagsReadsUptoRow.holds Try.pinned (OpenSpec.upto tagsReadsSpec)

/-- 'joistlaw11.TagsWalks', WHERE WHAT IT READS IS OF BULK AT MOST 1048576: true; the input reads as it did. -/
def tagsWalksUptoRow : OpenClaim := { program := "ytjbfdhnfdehdeaa", sum := "5e74e1cb8a45f156d69f31a3255727833ae6691558dd3b5f044ac2cef7213ed0", func := "joist/joistlaw11.TagsWalks", spec := "tagsWalks", unfollowed := true, recurses := true, apart := false, narrowed := true }
def TagsWalksUptoSaid : Prop := tagsWalksUptoRow.holds Try.pinned (OpenSpec.upto tagsWalksSpec)

/-- 'joistlaw11.TagsLists', WHERE WHAT IT READS IS OF BULK AT MOST 1048576: true; the input reads as it did. -/
def tagsListsUptoRow : OpenClaim := { program := "ytjbfdhnfdehdeaa", sum := "5e74e1cb8a45f156d69f31a3255727833ae6691558dd3b5f044ac2cef7213ed0", func := "joist/joistlaw11.TagsLists", spec := "tagsLists", unfollowed := true, recurses := true, apart := false, narrowed := true }
def TagsListsUptoSaid : Prop := tagsListsUptoRow.holds Try.pinned (OpenSpec.upto tagsListsSpec)

/-- 'joistlaw11.TagsBack', WHERE WHAT IT READS IS OF BULK AT MOST 1048576: true; the input reads as it did. -/
def tagsBackUptoRow : OpenClaim := { program := "ytjbfdhnfdehdeaa", sum := "5e74e1cb8a45f156d69f31a3255727833ae6691558dd3b5f044ac2cef7213ed0", func := "joist/joistlaw11.TagsBack", spec := "tagsBack", unfollowed := true, recurses := true, apart := false, narrowed := true }
def TagsBackUptoSaid : Prop := tagsBackUptoRow.holds Try.pinned (OpenSpec.upto tagsBackSpec)

end Rows
end Go.Proofs.Ytjbfdhnfdehdeaa
