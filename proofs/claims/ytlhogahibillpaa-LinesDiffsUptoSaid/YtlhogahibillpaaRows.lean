/-
  No cell of these rows narrows 'for every input' (looked for: loops, veiled, ifaces, maps, wideKeys, modest, calm, conditions, laid).
  DERIVED. THE GIVEN ROWS OF THIS SEAT. 5 by the template 'for every input the law returns true; each argument reads behind the call as it read before'; 0 by the template 'total and deterministic' (their statements: YtlhogahibillpaaTotals.lean).
  GIVEN WITH THE SEED: the statements are not yours to turn. If you find one false, say at which input.
  Laid BY PROGRAM, IN A SANDBOX (cutbox-rows.mjs): the forced cells as the released guide's own fill.sh prints them over the translation 917e930a2e9273b8… (all of the seat's roots in one cut). By AI agents, Wed Nov 11 2026. No macro, syntax, notation, axiom, sorry.
-/
import Derived.Test.YtlhogahibillpaaChecked
import GoSem.Claim
import GoSem.ClaimJoined
import GoSem.ClaimMapViews
import Derived.JoinedTies
import Derived.KernelRfl
namespace Go.Proofs.Ytlhogahibillpaa
/- THE CELL 'sum', in the pinned program and in every row, IS THE sha256 OF THE DUMP (.gsa) THAT YtlhogahibillpaaProg.lean LOADS. Nothing in Lean hashes anything: it is a label: what it is worth is what the hold of that sum in a sandbox is worth. -/
noncomputable def Try.pinned : Pinned := { name := "ytlhogahibillpaa", sum := "917e930a2e9273b85b6a18bcd2f6f7b5004d361dc40c95add6312fe1f3669971", checked := Try.checked }
namespace Rows
def none {H : Type} : Left H := { results := [], args := [] }

/-- 'joistlaw04.LinesDiffs': WHATEVER THE INPUT: true; the input reads as it did. -/
def linesDiffsSpec : ChangeSpec := { name := "linesDiffs", fn := fun _ => fun
  | [d1, d2] => { results := [.lit (.bool true)], args := [d1, d2] }
  | _ => none }
def linesDiffsRow : OpenClaim := { program := "ytlhogahibillpaa", sum := "917e930a2e9273b85b6a18bcd2f6f7b5004d361dc40c95add6312fe1f3669971", func := "joist/joistlaw04.LinesDiffs", spec := "linesDiffs", apart := false }
def LinesDiffsSaid : Prop := linesDiffsRow.holds Try.pinned (OpenSpec.ofChange linesDiffsSpec)

/-- ITS FALSE NEIGHBOUR: 'it returns false'. Refute it at one input. -/
def linesDiffsWrong : ChangeSpec := { name := "linesDiffs", fn := fun _ => fun
  | [d1, d2] => { results := [.lit (.bool false)], args := [d1, d2] }
  | _ => none }
def LinesDiffsWrongFalsely : Prop := linesDiffsRow.holds Try.pinned (OpenSpec.ofChange linesDiffsWrong)

/-- 'joistlaw04.LinesBack': WHATEVER THE INPUT: true; the input reads as it did. -/
def linesBackSpec : ChangeSpec := { name := "linesBack", fn := fun _ => fun
  | [d1, d2] => { results := [.lit (.bool true)], args := [d1, d2] }
  | _ => none }
def linesBackRow : OpenClaim := { program := "ytlhogahibillpaa", sum := "917e930a2e9273b85b6a18bcd2f6f7b5004d361dc40c95add6312fe1f3669971", func := "joist/joistlaw04.LinesBack", spec := "linesBack", apart := false }
def LinesBackSaid : Prop := linesBackRow.holds Try.pinned (OpenSpec.ofChange linesBackSpec)

/-- ITS FALSE NEIGHBOUR: 'it returns false'. Refute it at one input. -/
def linesBackWrong : ChangeSpec := { name := "linesBack", fn := fun _ => fun
  | [d1, d2] => { results := [.lit (.bool false)], args := [d1, d2] }
  | _ => none }
def LinesBackWrongFalsely : Prop := linesBackRow.holds Try.pinned (OpenSpec.ofChange linesBackWrong)

/-- 'joistlaw04.LinesTwice': WHATEVER THE INPUT: true; the input reads as it did. -/
def linesTwiceSpec : ChangeSpec := { name := "linesTwice", fn := fun _ => fun
  | [d1, d2] => { results := [.lit (.bool true)], args := [d1, d2] }
  | _ => none }
def linesTwiceRow : OpenClaim := { program := "ytlhogahibillpaa", sum := "917e930a2e9273b85b6a18bcd2f6f7b5004d361dc40c95add6312fe1f3669971", func := "joist/joistlaw04.LinesTwice", spec := "linesTwice", apart := false }
def LinesTwiceSaid : Prop := linesTwiceRow.holds Try.pinned (OpenSpec.ofChange linesTwiceSpec)

/-- ITS FALSE NEIGHBOUR: 'it returns false'. Refute it at one input. -/
def linesTwiceWrong : ChangeSpec := { name := "linesTwice", fn := fun _ => fun
  | [d1, d2] => { results := [.lit (.bool false)], args := [d1, d2] }
  | _ => none }
def LinesTwiceWrongFalsely : Prop := linesTwiceRow.holds Try.pinned (OpenSpec.ofChange linesTwiceWrong)

/-- 'joistlaw04.LinesMerges': WHATEVER THE INPUT: true; the input reads as it did. -/
def linesMergesSpec : ChangeSpec := { name := "linesMerges", fn := fun _ => fun
  | [d1, d2, d3] => { results := [.lit (.bool true)], args := [d1, d2, d3] }
  | _ => none }
def linesMergesRow : OpenClaim := { program := "ytlhogahibillpaa", sum := "917e930a2e9273b85b6a18bcd2f6f7b5004d361dc40c95add6312fe1f3669971", func := "joist/joistlaw04.LinesMerges", spec := "linesMerges", apart := false }
def LinesMergesSaid : Prop := linesMergesRow.holds Try.pinned (OpenSpec.ofChange linesMergesSpec)

/-- ITS FALSE NEIGHBOUR: 'it returns false'. Refute it at one input. -/
def linesMergesWrong : ChangeSpec := { name := "linesMerges", fn := fun _ => fun
  | [d1, d2, d3] => { results := [.lit (.bool false)], args := [d1, d2, d3] }
  | _ => none }
def LinesMergesWrongFalsely : Prop := linesMergesRow.holds Try.pinned (OpenSpec.ofChange linesMergesWrong)

/-- 'joistlaw04.LinesApplies': WHATEVER THE INPUT: true; the input reads as it did. -/
def linesAppliesSpec : ChangeSpec := { name := "linesApplies", fn := fun _ => fun
  | [d1, d2, d3, d4] => { results := [.lit (.bool true)], args := [d1, d2, d3, d4] }
  | _ => none }
def linesAppliesRow : OpenClaim := { program := "ytlhogahibillpaa", sum := "917e930a2e9273b85b6a18bcd2f6f7b5004d361dc40c95add6312fe1f3669971", func := "joist/joistlaw04.LinesApplies", spec := "linesApplies", unfollowed := true, recurses := true, apart := false }
def LinesAppliesSaid : Prop := linesAppliesRow.holds Try.pinned (OpenSpec.ofChange linesAppliesSpec)

/-- ITS FALSE NEIGHBOUR: 'it returns false'. Refute it at one input. -/
def linesAppliesWrong : ChangeSpec := { name := "linesApplies", fn := fun _ => fun
  | [d1, d2, d3, d4] => { results := [.lit (.bool false)], args := [d1, d2, d3, d4] }
  | _ => none }
def LinesAppliesWrongFalsely : Prop := linesAppliesRow.holds Try.pinned (OpenSpec.ofChange linesAppliesWrong)

/- THE SECOND FORM. 'bulk': how many values and letters a reading holds, each counted each time it is reached (what is shared counts as often as it is met; a slice's spare places count too). A statement '..UptoSaid' is the law's where the arguments, and the package variables that the reading takes, are together of bulk at most 1048576: NARROWER than '..Said'. Prove '..Said' where nothing that the law and all that it calls make is longer than what came in: it says more and counts as full. Else prove '..UptoSaid'. A law counts once. -/
mutual
def uptoBulk {H : Type} : DataW H → Nat
  | .lit (.string bytes) => bytes.length + 1
  | .lit _ => 1
  | .nil => 1
  | .ptr d => uptoBulk d + 1
  | .slice elems spare => uptoBulkAll elems + uptoBulkAll spare + 1
  | .agg parts => uptoBulkAll parts + 1
  | .iface _ d => uptoBulk d + 1
  | .map entries => uptoBulkEntries entries + 1
  | .held _ => 1
def uptoBulkAll {H : Type} : List (DataW H) → Nat
  | [] => 0
  | d :: r => uptoBulk d + uptoBulkAll r
def uptoBulkEntries {H : Type} : List (Lit × DataW H) → Nat
  | [] => 0
  | x :: r => uptoBulkEntry x + uptoBulkEntries r
def uptoBulkEntry {H : Type} : Lit × DataW H → Nat
  | (.string bytes, d) => bytes.length + uptoBulk d + 1
  | (_, d) => uptoBulk d + 1
 end
def uptoSmall : (H : Type) → List (DataW H) → Bool := fun _ ds => decide (uptoBulkAll ds ≤ 1048576)
def OpenSpec.upto (s : _root_.Go.ChangeSpec) : _root_.Go.OpenSpec := { _root_.Go.OpenSpec.ofChange s with cond := some uptoSmall }

/-- 'joistlaw04.LinesDiffs', WHERE WHAT IT READS IS OF BULK AT MOST 1048576: true; the input reads as it did. -/
def linesDiffsUptoRow : OpenClaim := { program := "ytlhogahibillpaa", sum := "917e930a2e9273b85b6a18bcd2f6f7b5004d361dc40c95add6312fe1f3669971", func := "joist/joistlaw04.LinesDiffs", spec := "linesDiffs", apart := false, narrowed := true }
def LinesDiffsUptoSaid : Prop := linesDiffsUptoRow.holds Try.pinned (OpenSpec.upto linesDiffsSpec)

/-- 'joistlaw04.LinesBack', WHERE WHAT IT READS IS OF BULK AT MOST 1048576: true; the input reads as it did. -/
def linesBackUptoRow : OpenClaim := { program := "ytlhogahibillpaa", sum := "917e930a2e9273b85b6a18bcd2f6f7b5004d361dc40c95add6312fe1f3669971", func := "joist/joistlaw04.LinesBack", spec := "linesBack", apart := false, narrowed := true }
def LinesBackUptoSaid : Prop := linesBackUptoRow.holds Try.pinned (OpenSpec.upto linesBackSpec)

/-- 'joistlaw04.LinesTwice', WHERE WHAT IT READS IS OF BULK AT MOST 1048576: true; the input reads as it did. -/
def linesTwiceUptoRow : OpenClaim := { program := "ytlhogahibillpaa", sum := "917e930a2e9273b85b6a18bcd2f6f7b5004d361dc40c95add6312fe1f3669971", func := "joist/joistlaw04.LinesTwice", spec := "linesTwice", apart := false, narrowed := true }
def LinesTwiceUptoSaid : Prop := linesTwiceUptoRow.holds Try.pinned (OpenSpec.upto linesTwiceSpec)

/-- 'joistlaw04.LinesMerges', WHERE WHAT IT READS IS OF BULK AT MOST 1048576: true; the input reads as it did. -/
def linesMergesUptoRow : OpenClaim := { program := "ytlhogahibillpaa", sum := "917e930a2e9273b85b6a18bcd2f6f7b5004d361dc40c95add6312fe1f3669971", func := "joist/joistlaw04.LinesMerges", spec := "linesMerges", apart := false, narrowed := true }
def LinesMergesUptoSaid : Prop := linesMergesUptoRow.holds Try.pinned (OpenSpec.upto linesMergesSpec)

/-- 'joistlaw04.LinesApplies', WHERE WHAT IT READS IS OF BULK AT MOST 1048576: true; the input reads as it did. -/
def linesAppliesUptoRow : OpenClaim := { program := "ytlhogahibillpaa", sum := "917e930a2e9273b85b6a18bcd2f6f7b5004d361dc40c95add6312fe1f3669971", func := "joist/joistlaw04.LinesApplies", spec := "linesApplies", unfollowed := true, recurses := true, apart := false, narrowed := true }
def LinesAppliesUptoSaid : Prop := linesAppliesUptoRow.holds Try.pinned (OpenSpec.upto linesAppliesSpec)

end Rows
end Go.Proofs.Ytlhogahibillpaa
