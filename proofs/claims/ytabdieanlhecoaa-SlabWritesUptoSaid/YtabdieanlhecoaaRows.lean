/-
  No cell of these rows narrows 'for every input' (looked for: loops, veiled, ifaces, maps, wideKeys, modest, calm, conditions, laid).
  DERIVED. THE GIVEN ROWS OF THIS SEAT. 5 by the template 'for every input the law returns true; each argument reads behind the call as it read before'; 0 by the template 'total and deterministic' (their statements: YtabdieanlhecoaaTotals.lean).
  GIVEN WITH THE SEED: the statements are not yours to turn. If you find one false, say at which input.
  Laid BY PROGRAM, IN A SANDBOX (cutbox-rows.mjs): the forced cells as the released guide's own fill.sh prints them over the translation 46fe92114fa1303d… (all of the seat's roots in one cut). By AI agents, Wed Nov 11 2026. No macro, syntax, notation, axiom, sorry.
-/
import Derived.Test.YtabdieanlhecoaaChecked
import GoSem.Claim
import GoSem.ClaimJoined
import GoSem.ClaimMapViews
import Derived.JoinedTies
import Derived.KernelRfl
namespace Go.Proofs.Ytabdieanlhecoaa
/- THE CELL 'sum', in the pinned program and in every row, IS THE sha256 OF THE DUMP (.gsa) THAT YtabdieanlhecoaaProg.lean LOADS. Nothing in Lean hashes anything: it is a label: what it is worth is what the hold of that sum in a sandbox is worth. -/
noncomputable def Try.pinned : Pinned := { name := "ytabdieanlhecoaa", sum := "46fe92114fa1303d9a382900b63dfc437f52ef62290781d3f33ad8ad75cd353a", checked := Try.checked }
namespace Rows
def none {H : Type} : Left H := { results := [], args := [] }

/-- 'joistlaw15.SlabWrites': WHATEVER THE INPUT: true; the input reads as it did. -/
def slabWritesSpec : ChangeSpec := { name := "slabWrites", fn := fun _ => fun
  | [d1, d2, d3, d4, d5] => { results := [.lit (.bool true)], args := [d1, d2, d3, d4, d5] }
  | _ => none }
def slabWritesRow : OpenClaim := { program := "ytabdieanlhecoaa", sum := "46fe92114fa1303d9a382900b63dfc437f52ef62290781d3f33ad8ad75cd353a", func := "joist/joistlaw15.SlabWrites", spec := "slabWrites", apart := false }
def SlabWritesSaid : Prop := slabWritesRow.holds Try.pinned (OpenSpec.ofChange slabWritesSpec)

/-- ITS FALSE NEIGHBOUR: 'it returns false'. Refute it at one input. -/
def slabWritesWrong : ChangeSpec := { name := "slabWrites", fn := fun _ => fun
  | [d1, d2, d3, d4, d5] => { results := [.lit (.bool false)], args := [d1, d2, d3, d4, d5] }
  | _ => none }
def SlabWritesWrongFalsely : Prop := slabWritesRow.holds Try.pinned (OpenSpec.ofChange slabWritesWrong)

/-- 'joistlaw15.SlabReads': WHATEVER THE INPUT: true; the input reads as it did. -/
def slabReadsSpec : ChangeSpec := { name := "slabReads", fn := fun _ => fun
  | [d] => { results := [.lit (.bool true)], args := [d] }
  | _ => none }
def slabReadsRow : OpenClaim := { program := "ytabdieanlhecoaa", sum := "46fe92114fa1303d9a382900b63dfc437f52ef62290781d3f33ad8ad75cd353a", func := "joist/joistlaw15.SlabReads", spec := "slabReads", apart := false }
def SlabReadsSaid : Prop := slabReadsRow.holds Try.pinned (OpenSpec.ofChange slabReadsSpec)

/-- ITS FALSE NEIGHBOUR: 'it returns false'. Refute it at one input. -/
def slabReadsWrong : ChangeSpec := { name := "slabReads", fn := fun _ => fun
  | [d] => { results := [.lit (.bool false)], args := [d] }
  | _ => none }
def SlabReadsWrongFalsely : Prop := slabReadsRow.holds Try.pinned (OpenSpec.ofChange slabReadsWrong)

/-- 'joistlaw15.SlabBits': WHATEVER THE INPUT: true; the input reads as it did. -/
def slabBitsSpec : ChangeSpec := { name := "slabBits", fn := fun _ => fun
  | [d1, d2, d3] => { results := [.lit (.bool true)], args := [d1, d2, d3] }
  | _ => none }
def slabBitsRow : OpenClaim := { program := "ytabdieanlhecoaa", sum := "46fe92114fa1303d9a382900b63dfc437f52ef62290781d3f33ad8ad75cd353a", func := "joist/joistlaw15.SlabBits", spec := "slabBits", apart := false }
def SlabBitsSaid : Prop := slabBitsRow.holds Try.pinned (OpenSpec.ofChange slabBitsSpec)

/-- ITS FALSE NEIGHBOUR: 'it returns false'. Refute it at one input. -/
def slabBitsWrong : ChangeSpec := { name := "slabBits", fn := fun _ => fun
  | [d1, d2, d3] => { results := [.lit (.bool false)], args := [d1, d2, d3] }
  | _ => none }
def SlabBitsWrongFalsely : Prop := slabBitsRow.holds Try.pinned (OpenSpec.ofChange slabBitsWrong)

/-- 'joistlaw15.SlabBack': WHATEVER THE INPUT: true; the input reads as it did. -/
def slabBackSpec : ChangeSpec := { name := "slabBack", fn := fun _ => fun
  | [d1, d2, d3, d4, d5, d6] => { results := [.lit (.bool true)], args := [d1, d2, d3, d4, d5, d6] }
  | _ => none }
def slabBackRow : OpenClaim := { program := "ytabdieanlhecoaa", sum := "46fe92114fa1303d9a382900b63dfc437f52ef62290781d3f33ad8ad75cd353a", func := "joist/joistlaw15.SlabBack", spec := "slabBack", apart := false }
def SlabBackSaid : Prop := slabBackRow.holds Try.pinned (OpenSpec.ofChange slabBackSpec)

/-- ITS FALSE NEIGHBOUR: 'it returns false'. Refute it at one input. -/
def slabBackWrong : ChangeSpec := { name := "slabBack", fn := fun _ => fun
  | [d1, d2, d3, d4, d5, d6] => { results := [.lit (.bool false)], args := [d1, d2, d3, d4, d5, d6] }
  | _ => none }
def SlabBackWrongFalsely : Prop := slabBackRow.holds Try.pinned (OpenSpec.ofChange slabBackWrong)

/-- 'joistlaw15.SlabCells': WHATEVER THE INPUT: true; the input reads as it did. -/
def slabCellsSpec : ChangeSpec := { name := "slabCells", fn := fun _ => fun
  | [d1, d2, d3, d4, d5] => { results := [.lit (.bool true)], args := [d1, d2, d3, d4, d5] }
  | _ => none }
def slabCellsRow : OpenClaim := { program := "ytabdieanlhecoaa", sum := "46fe92114fa1303d9a382900b63dfc437f52ef62290781d3f33ad8ad75cd353a", func := "joist/joistlaw15.SlabCells", spec := "slabCells", apart := false }
def SlabCellsSaid : Prop := slabCellsRow.holds Try.pinned (OpenSpec.ofChange slabCellsSpec)

/-- ITS FALSE NEIGHBOUR: 'it returns false'. Refute it at one input. -/
def slabCellsWrong : ChangeSpec := { name := "slabCells", fn := fun _ => fun
  | [d1, d2, d3, d4, d5] => { results := [.lit (.bool false)], args := [d1, d2, d3, d4, d5] }
  | _ => none }
def SlabCellsWrongFalsely : Prop := slabCellsRow.holds Try.pinned (OpenSpec.ofChange slabCellsWrong)

/- THE SECOND FORM. 'bulk': how many values and letters a reading holds, each counted each time it is reached (what is shared counts as often as it is met; a slice's spare places count too). A statement '..UptoSaid' is the law's where the arguments, and the package variables that the reading takes, are together of bulk at most 1048576: NARROWER than '..Said'. Prove '..Said' where nothing that the law and all that it calls make is longer than what came in: it says more and counts as full. Else prove '..UptoSaid'. A law counts once. -/
mutual
def uptoBulk {H : Type} : DataW H → Nat
  | .lit (.string bytes) => bytes.length + 1
  | .lit _ => 1
  | .nil => 1
  | .ptr d => uptoBulk d + 1
  | .slice elems spare => uptoBulkAll elems + uptoBulkAll spare + 1
  | .agg parts => uptoBulkAll parts + 1
  | .iface _ d => uptoBulk d + 1
  | .map entries => uptoBulkEntries entries + 1
  | .held _ => 1
def uptoBulkAll {H : Type} : List (DataW H) → Nat
  | [] => 0
  | d :: r => uptoBulk d + uptoBulkAll r
def uptoBulkEntries {H : Type} : List (Lit × DataW H) → Nat
  | [] => 0
  | x :: r => uptoBulkEntry x + uptoBulkEntries r
def uptoBulkEntry {H : Type} : Lit × DataW H → Nat
  | (.string bytes, d) => bytes.length + uptoBulk d + 1
  | (_, d) => uptoBulk d + 1
 end
def uptoSmall : (H : Type) → List (DataW H) → Bool := fun _ ds => decide (uptoBulkAll ds ≤ 1048576)
def OpenSpec.upto (s : _root_.Go.ChangeSpec) : _root_.Go.OpenSpec := { _root_.Go.OpenSpec.ofChange s with cond := some uptoSmall }

/-- 'joistlaw15.SlabWrites', WHERE WHAT IT READS IS OF BULK AT MOST 1048576: true; the input reads as it did. -/
def slabWritesUptoRow : OpenClaim := { program := "ytabdieanlhecoaa", sum := "46fe92114fa1303d9a382900b63dfc437f52ef62290781d3f33ad8ad75cd353a", func := "joist/joistlaw15.SlabWrites", spec := "slabWrites", apart := false, narrowed := true }
def SlabWritesUptoSaid : Prop := slabWritesUptoRow.holds Try.pinned (OpenSpec.upto slabWritesSpec)

/-- 'joistlaw15.SlabReads', WHERE WHAT IT READS IS OF BULK AT MOST 1048576: true; the input reads as it did. -/
def slabReadsUptoRow : OpenClaim := { program := "ytabdieanlhecoaa", sum := "46fe92114fa1303d9a382900b63dfc437f52ef62290781d3f33ad8ad75cd353a", func := "joist/joistlaw15.SlabReads", spec := "slabReads", apart := false, narrowed := true }
def SlabReadsUptoSaid : Prop := slabReadsUptoRow.holds Try.pinned (OpenSpec.upto slabReadsSpec)

/-- 'joistlaw15.SlabBits', WHERE WHAT IT READS IS OF BULK AT MOST 1048576: true; the input reads as it did. -/
def slabBitsUptoRow : OpenClaim := { program := "ytabdieanlhecoaa", sum := "46fe92114fa1303d9a382900b63dfc437f52ef62290781d3f33ad8ad75cd353a", func := "joist/joistlaw15.SlabBits", spec := "slabBits", apart := false, narrowed := true }
def SlabBitsUptoSaid : Prop := slabBitsUptoRow.holds Try.pinned (OpenSpec.upto slabBitsSpec)

/-- 'joistlaw15.SlabBack', WHERE WHAT IT READS IS OF BULK AT MOST 1048576: true; the input reads as it did. -/
def slabBackUptoRow : OpenClaim := { program := "ytabdieanlhecoaa", sum := "46fe92114fa1303d9a382900b63dfc437f52ef62290781d3f33ad8ad75cd353a", func := "joist/joistlaw15.SlabBack", spec := "slabBack", apart := false, narrowed := true }
def SlabBackUptoSaid : Prop := slabBackUptoRow.holds Try.pinned (OpenSpec.upto slabBackSpec)

/-- 'joistlaw15.SlabCells', WHERE WHAT IT READS IS OF BULK AT MOST 1048576: true; the input reads as it did. -/
def slabCellsUptoRow : OpenClaim := { program := "ytabdieanlhecoaa", sum := "46fe92114fa1303d9a382900b63dfc437f52ef62290781d3f33ad8ad75cd353a", func := "joist/joistlaw15.SlabCells", spec := "slabCells", apart := false, narrowed := true }
def SlabCellsUptoSaid : Prop := slabCellsUptoRow.holds Try.pinned (OpenSpec.upto slabCellsSpec)

end Rows
end Go.Proofs.Ytabdieanlhecoaa
