/-
  No cell of these rows narrows 'for every input' (looked for: loops, veiled, ifaces, maps, wideKeys, modest, calm, conditions, laid).
  DERIVED. THE GIVEN ROWS OF THIS SEAT. 6 by the template 'for every input the law returns true; each argument reads behind the call as it read before'; 0 by the template 'total and deterministic' (their statements: YthalikgchafjiaaTotals.lean).
  GIVEN WITH THE SEED: the statements are not yours to turn. If you find one false, say at which input.
  Laid BY PROGRAM, IN A SANDBOX (cutbox-rows.mjs): the forced cells as the released guide's own fill.sh prints them over the translation f2fa68d9df31db2c… (all of the seat's roots in one cut). By AI agents, Wed Nov 11 2026. No macro, syntax, notation, axiom, sorry.
-/
import Derived.Test.YthalikgchafjiaaChecked
import GoSem.Claim
import GoSem.ClaimJoined
import GoSem.ClaimMapViews
import Derived.JoinedTies
import Derived.KernelRfl
namespace Go.Proofs.Ythalikgchafjiaa
/- THE CELL 'sum', in the pinned program and in every row, IS THE sha256 OF THE DUMP (.gsa) THAT YthalikgchafjiaaProg.lean LOADS. Nothing in Lean hashes anything: it is a label: what it is worth is what the hold of that sum in a sandbox is worth. -/
noncomputable def Try.pinned : Pinned := { name := "ythalikgchafjiaa", sum := "f2fa68d9df31db2c1d4babf8a588b240b799dac49c91c3734514ca0131e8e9db", checked := Try.checked }
namespace Rows
def none {H : Type} : Left H := { results := [], args := [] }

/-- 'joistlaw14.TreeExtents': WHATEVER THE INPUT: true; the input reads as it did. -/
def treeExtentsSpec : ChangeSpec := { name := "treeExtents", fn := fun _ => fun
  | [d1, d2, d3, d4] => { results := [.lit (.bool true)], args := [d1, d2, d3, d4] }
  | _ => none }
def treeExtentsRow : OpenClaim := { program := "ythalikgchafjiaa", sum := "f2fa68d9df31db2c1d4babf8a588b240b799dac49c91c3734514ca0131e8e9db", func := "joist/joistlaw14.TreeExtents", spec := "treeExtents", unfollowed := true, recurses := true, apart := false }
def TreeExtentsSaid : Prop := treeExtentsRow.holds Try.pinned (OpenSpec.ofChange treeExtentsSpec)

/-- ITS FALSE NEIGHBOUR: 'it returns false'. Refute it at one input. -/
def treeExtentsWrong : ChangeSpec := { name := "treeExtents", fn := fun _ => fun
  | [d1, d2, d3, d4] => { results := [.lit (.bool false)], args := [d1, d2, d3, d4] }
  | _ => none }
def TreeExtentsWrongFalsely : Prop := treeExtentsRow.holds Try.pinned (OpenSpec.ofChange treeExtentsWrong)

/-- 'joistlaw14.TreeWrites': WHATEVER THE INPUT: true; the input reads as it did. -/
def treeWritesSpec : ChangeSpec := { name := "treeWrites", fn := fun _ => fun
  | [d1, d2, d3] => { results := [.lit (.bool true)], args := [d1, d2, d3] }
  | _ => none }
def treeWritesRow : OpenClaim := { program := "ythalikgchafjiaa", sum := "f2fa68d9df31db2c1d4babf8a588b240b799dac49c91c3734514ca0131e8e9db", func := "joist/joistlaw14.TreeWrites", spec := "treeWrites", unfollowed := true, recurses := true, apart := false }
def TreeWritesSaid : Prop := treeWritesRow.holds Try.pinned (OpenSpec.ofChange treeWritesSpec)

/-- ITS FALSE NEIGHBOUR: 'it returns false'. Refute it at one input. -/
def treeWritesWrong : ChangeSpec := { name := "treeWrites", fn := fun _ => fun
  | [d1, d2, d3] => { results := [.lit (.bool false)], args := [d1, d2, d3] }
  | _ => none }
def TreeWritesWrongFalsely : Prop := treeWritesRow.holds Try.pinned (OpenSpec.ofChange treeWritesWrong)

/-- 'joistlaw14.TreeReads': WHATEVER THE INPUT: true; the input reads as it did. -/
def treeReadsSpec : ChangeSpec := { name := "treeReads", fn := fun _ => fun
  | [d1, d2, d3] => { results := [.lit (.bool true)], args := [d1, d2, d3] }
  | _ => none }
def treeReadsRow : OpenClaim := { program := "ythalikgchafjiaa", sum := "f2fa68d9df31db2c1d4babf8a588b240b799dac49c91c3734514ca0131e8e9db", func := "joist/joistlaw14.TreeReads", spec := "treeReads", unfollowed := true, recurses := true, apart := false }
def TreeReadsSaid : Prop := treeReadsRow.holds Try.pinned (OpenSpec.ofChange treeReadsSpec)

/-- ITS FALSE NEIGHBOUR: 'it returns false'. Refute it at one input. -/
def treeReadsWrong : ChangeSpec := { name := "treeReads", fn := fun _ => fun
  | [d1, d2, d3] => { results := [.lit (.bool false)], args := [d1, d2, d3] }
  | _ => none }
def TreeReadsWrongFalsely : Prop := treeReadsRow.holds Try.pinned (OpenSpec.ofChange treeReadsWrong)

/-- 'joistlaw14.TreeBack': WHATEVER THE INPUT: true; the input reads as it did. -/
def treeBackSpec : ChangeSpec := { name := "treeBack", fn := fun _ => fun
  | [d1, d2, d3, d4, d5] => { results := [.lit (.bool true)], args := [d1, d2, d3, d4, d5] }
  | _ => none }
def treeBackRow : OpenClaim := { program := "ythalikgchafjiaa", sum := "f2fa68d9df31db2c1d4babf8a588b240b799dac49c91c3734514ca0131e8e9db", func := "joist/joistlaw14.TreeBack", spec := "treeBack", unfollowed := true, recurses := true, apart := false }
def TreeBackSaid : Prop := treeBackRow.holds Try.pinned (OpenSpec.ofChange treeBackSpec)

/-- ITS FALSE NEIGHBOUR: 'it returns false'. Refute it at one input. -/
def treeBackWrong : ChangeSpec := { name := "treeBack", fn := fun _ => fun
  | [d1, d2, d3, d4, d5] => { results := [.lit (.bool false)], args := [d1, d2, d3, d4, d5] }
  | _ => none }
def TreeBackWrongFalsely : Prop := treeBackRow.holds Try.pinned (OpenSpec.ofChange treeBackWrong)

/-- 'joistlaw14.TreeCounts': WHATEVER THE INPUT: true; the input reads as it did. -/
def treeCountsSpec : ChangeSpec := { name := "treeCounts", fn := fun _ => fun
  | [d1, d2, d3] => { results := [.lit (.bool true)], args := [d1, d2, d3] }
  | _ => none }
def treeCountsRow : OpenClaim := { program := "ythalikgchafjiaa", sum := "f2fa68d9df31db2c1d4babf8a588b240b799dac49c91c3734514ca0131e8e9db", func := "joist/joistlaw14.TreeCounts", spec := "treeCounts", unfollowed := true, recurses := true, apart := false }
def TreeCountsSaid : Prop := treeCountsRow.holds Try.pinned (OpenSpec.ofChange treeCountsSpec)

/-- ITS FALSE NEIGHBOUR: 'it returns false'. Refute it at one input. -/
def treeCountsWrong : ChangeSpec := { name := "treeCounts", fn := fun _ => fun
  | [d1, d2, d3] => { results := [.lit (.bool false)], args := [d1, d2, d3] }
  | _ => none }
def TreeCountsWrongFalsely : Prop := treeCountsRow.holds Try.pinned (OpenSpec.ofChange treeCountsWrong)

/-- 'joistlaw14.TreeDown': WHATEVER THE INPUT: true; the input reads as it did. -/
def treeDownSpec : ChangeSpec := { name := "treeDown", fn := fun _ => fun
  | [d1, d2, d3, d4] => { results := [.lit (.bool true)], args := [d1, d2, d3, d4] }
  | _ => none }
def treeDownRow : OpenClaim := { program := "ythalikgchafjiaa", sum := "f2fa68d9df31db2c1d4babf8a588b240b799dac49c91c3734514ca0131e8e9db", func := "joist/joistlaw14.TreeDown", spec := "treeDown", unfollowed := true, recurses := true, apart := false }
def TreeDownSaid : Prop := treeDownRow.holds Try.pinned (OpenSpec.ofChange treeDownSpec)

/-- ITS FALSE NEIGHBOUR: 'it returns false'. Refute it at one input. -/
def treeDownWrong : ChangeSpec := { name := "treeDown", fn := fun _ => fun
  | [d1, d2, d3, d4] => { results := [.lit (.bool false)], args := [d1, d2, d3, d4] }
  | _ => none }
def TreeDownWrongFalsely : Prop := treeDownRow.holds Try.pinned (OpenSpec.ofChange treeDownWrong)

/- THE SECOND FORM. 'bulk': how many values and letters a reading holds, each counted each time it is reached (what is shared counts as often as it is met; a slice's spare places count too). A statement '..UptoSaid' is the law's where the arguments, and the package variables that the reading takes, are together of bulk at most 1048576: NARROWER than '..Said'. Prove '..Said' where nothing that the law and all that it calls make is longer than what came in: it says more and counts as full. Else prove '..UptoSaid'. A law counts once. -/
mutual
def uptoBulk {H : Type} : DataW H → Nat
  | .lit (.string bytes) => bytes.length + 1
  | .lit _ => 1
  | .nil => 1
  | .ptr d => uptoBulk d + 1
  | .slice elems spare => uptoBulkAll elems + uptoBulkAll spare + 1
  | .agg parts => uptoBulkAll parts + 1
  | .iface _ d => uptoBulk d + 1
  | .map entries => uptoBulkEntries entries + 1
  | .held _ => 1
def uptoBulkAll {H : Type} : List (DataW H) → Nat
  | [] => 0
  | d :: r => uptoBulk d + uptoBulkAll r
def uptoBulkEntries {H : Type} : List (Lit × DataW H) → Nat
  | [] => 0
  | x :: r => uptoBulkEntry x + uptoBulkEntries r
def uptoBulkEntry {H : Type} : Lit × DataW H → Nat
  | (.string bytes, d) => bytes.length + uptoBulk d + 1
  | (_, d) => uptoBulk d + 1
 end
def uptoSmall : (H : Type) → List (DataW H) → Bool := fun _ ds => decide (uptoBulkAll ds ≤ 1048576)
def OpenSpec.upto (s : _root_.Go.ChangeSpec) : _root_.Go.OpenSpec := { _root_.Go.OpenSpec.ofChange s with cond := some uptoSmall }

/-- 'joistlaw14.TreeExtents', WHERE WHAT IT READS IS OF BULK AT MOST 1048576: true; the input reads as it did. -/
def treeExtentsUptoRow : OpenClaim := { program := "ythalikgchafjiaa", sum := "f2fa68d9df31db2c1d4babf8a588b240b799dac49c91c3734514ca0131e8e9db", func := "joist/joistlaw14.TreeExtents", spec := "treeExtents", unfollowed := true, recurses := true, apart := false, narrowed := true }
def TreeExtentsUptoSaid : Prop := treeExtentsUptoRow.holds Try.pinned (OpenSpec.upto treeExtentsSpec)

/-- 'joistlaw14.TreeWrites', WHERE WHAT IT READS IS OF BULK AT MOST 1048576: true; the input reads as it did. -/
def treeWritesUptoRow : OpenClaim := { program := "ythalikgchafjiaa", sum := "f2fa68d9df31db2c1d4babf8a588b240b799dac49c91c3734514ca0131e8e9db", func := "joist/joistlaw14.TreeWrites", spec := "treeWrites", unfollowed := true, recurses := true, apart := false, narrowed := true }
def TreeWritesUptoSaid : Prop := treeWritesUptoRow.holds Try.pinned (OpenSpec.upto treeWritesSpec)

/-- 'joistlaw14.TreeReads', WHERE WHAT IT READS IS OF BULK AT MOST 1048576: true; the input reads as it did. -/
def treeReadsUptoRow : OpenClaim := { program := "ythalikgchafjiaa", sum := "f2fa68d9df31db2c1d4babf8a588b240b799dac49c91c3734514ca0131e8e9db", func := "joist/joistlaw14.TreeReads", spec := "treeReads", unfollowed := true, recurses := true, apart := false, narrowed := true }
def TreeReadsUptoSaid : Prop := treeReadsUptoRow.holds Try.pinned (OpenSpec.upto treeReadsSpec)

/-- 'joistlaw14.TreeBack', WHERE WHAT IT READS IS OF BULK AT MOST 1048576: true; the input reads as it did. -/
def treeBackUptoRow : OpenClaim := { program := "ythalikgchafjiaa", sum := "f2fa68d9df31db2c1d4babf8a588b240b799dac49c91c3734514ca0131e8e9db", func := "joist/joistlaw14.TreeBack", spec := "treeBack", unfollowed := true, recurses := true, apart := false, narrowed := true }
def TreeBackUptoSaid : Prop := treeBackUptoRow.holds Try.pinned (OpenSpec.upto treeBackSpec)

/-- 'joistlaw14.TreeCounts', WHERE WHAT IT READS IS OF BULK AT MOST 1048576: true; the input reads as it did. -/
def treeCountsUptoRow : OpenClaim := { program := "ythalikgchafjiaa", sum := "f2fa68d9df31db2c1d4babf8a588b240b799dac49c91c3734514ca0131e8e9db", func := "joist/joistlaw14.TreeCounts", spec := "treeCounts", unfollowed := true, recurses := true, apart := false, narrowed := true }
def TreeCountsUptoSaid : Prop := treeCountsUptoRow.holds Try.pinned (OpenSpec.upto treeCountsSpec)

/-- 'joistlaw14.TreeDown', WHERE WHAT IT READS IS OF BULK AT MOST 1048576: true; the input reads as it did. -/
def treeDownUptoRow : OpenClaim := { program := "ythalikgchafjiaa", sum := "f2fa68d9df31db2c1d4babf8a588b240b799dac49c91c3734514ca0131e8e9db", func := "joist/joistlaw14.TreeDown", spec := "treeDown", unfollowed := true, recurses := true, apart := false, narrowed := true }
def TreeDownUptoSaid : Prop := treeDownUptoRow.holds Try.pinned (OpenSpec.upto treeDownSpec)

end Rows
end Go.Proofs.Ythalikgchafjiaa
