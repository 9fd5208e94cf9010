/-
  No cell of these rows narrows 'for every input' (looked for: loops, veiled, ifaces, maps, wideKeys, modest, calm, conditions, laid).
  DERIVED. THE GIVEN ROWS OF THIS SEAT. 7 by the template 'for every input the law returns true; each argument reads behind the call as it read before'; 0 by the template 'total and deterministic' (their statements: YtbmocdcfcdmmkaaTotals.lean).
  GIVEN WITH THE SEED: the statements are not yours to turn. If you find one false, say at which input.
  Laid BY PROGRAM, IN A SANDBOX (cutbox-rows.mjs): the forced cells as the released guide's own fill.sh prints them over the translation 955ed3d7378d5991… (all of the seat's roots in one cut). By AI agents, Wed Nov 11 2026. No macro, syntax, notation, axiom, sorry.
-/
import Derived.Test.YtbmocdcfcdmmkaaChecked
import GoSem.Claim
import GoSem.ClaimJoined
import GoSem.ClaimMapViews
import Derived.JoinedTies
import Derived.KernelRfl
namespace Go.Proofs.Ytbmocdcfcdmmkaa
/- THE CELL 'sum', in the pinned program and in every row, IS THE sha256 OF THE DUMP (.gsa) THAT YtbmocdcfcdmmkaaProg.lean LOADS. Nothing in Lean hashes anything: it is a label: what it is worth is what the hold of that sum in a sandbox is worth. -/
noncomputable def Try.pinned : Pinned := { name := "ytbmocdcfcdmmkaa", sum := "955ed3d7378d5991f79ab69196c6463f3ab142291c4a9846eef4b5f9d3dbadf1", checked := Try.checked }
namespace Rows
def none {H : Type} : Left H := { results := [], args := [] }

/-- 'joistlaw08.TableTurns': WHATEVER THE INPUT: true; the input reads as it did. -/
def tableTurnsSpec : ChangeSpec := { name := "tableTurns", fn := fun _ => fun
  | [d1, d2, d3] => { results := [.lit (.bool true)], args := [d1, d2, d3] }
  | _ => none }
def tableTurnsRow : OpenClaim := { program := "ytbmocdcfcdmmkaa", sum := "955ed3d7378d5991f79ab69196c6463f3ab142291c4a9846eef4b5f9d3dbadf1", func := "joist/joistlaw08.TableTurns", spec := "tableTurns", apart := false }
def TableTurnsSaid : Prop := tableTurnsRow.holds Try.pinned (OpenSpec.ofChange tableTurnsSpec)

/-- ITS FALSE NEIGHBOUR: 'it returns false'. Refute it at one input. -/
def tableTurnsWrong : ChangeSpec := { name := "tableTurns", fn := fun _ => fun
  | [d1, d2, d3] => { results := [.lit (.bool false)], args := [d1, d2, d3] }
  | _ => none }
def TableTurnsWrongFalsely : Prop := tableTurnsRow.holds Try.pinned (OpenSpec.ofChange tableTurnsWrong)

/-- 'joistlaw08.TableStale': WHATEVER THE INPUT: true; the input reads as it did. -/
def tableStaleSpec : ChangeSpec := { name := "tableStale", fn := fun _ => fun
  | [d1, d2, d3] => { results := [.lit (.bool true)], args := [d1, d2, d3] }
  | _ => none }
def tableStaleRow : OpenClaim := { program := "ytbmocdcfcdmmkaa", sum := "955ed3d7378d5991f79ab69196c6463f3ab142291c4a9846eef4b5f9d3dbadf1", func := "joist/joistlaw08.TableStale", spec := "tableStale", apart := false }
def TableStaleSaid : Prop := tableStaleRow.holds Try.pinned (OpenSpec.ofChange tableStaleSpec)

/-- ITS FALSE NEIGHBOUR: 'it returns false'. Refute it at one input. -/
def tableStaleWrong : ChangeSpec := { name := "tableStale", fn := fun _ => fun
  | [d1, d2, d3] => { results := [.lit (.bool false)], args := [d1, d2, d3] }
  | _ => none }
def TableStaleWrongFalsely : Prop := tableStaleRow.holds Try.pinned (OpenSpec.ofChange tableStaleWrong)

/-- 'joistlaw08.TableTells': WHATEVER THE INPUT: true; the input reads as it did. -/
def tableTellsSpec : ChangeSpec := { name := "tableTells", fn := fun _ => fun
  | [d1, d2, d3] => { results := [.lit (.bool true)], args := [d1, d2, d3] }
  | _ => none }
def tableTellsRow : OpenClaim := { program := "ytbmocdcfcdmmkaa", sum := "955ed3d7378d5991f79ab69196c6463f3ab142291c4a9846eef4b5f9d3dbadf1", func := "joist/joistlaw08.TableTells", spec := "tableTells", apart := false }
def TableTellsSaid : Prop := tableTellsRow.holds Try.pinned (OpenSpec.ofChange tableTellsSpec)

/-- ITS FALSE NEIGHBOUR: 'it returns false'. Refute it at one input. -/
def tableTellsWrong : ChangeSpec := { name := "tableTells", fn := fun _ => fun
  | [d1, d2, d3] => { results := [.lit (.bool false)], args := [d1, d2, d3] }
  | _ => none }
def TableTellsWrongFalsely : Prop := tableTellsRow.holds Try.pinned (OpenSpec.ofChange tableTellsWrong)

/-- 'joistlaw08.TableFills': WHATEVER THE INPUT: true; the input reads as it did. -/
def tableFillsSpec : ChangeSpec := { name := "tableFills", fn := fun _ => fun
  | [d] => { results := [.lit (.bool true)], args := [d] }
  | _ => none }
def tableFillsRow : OpenClaim := { program := "ytbmocdcfcdmmkaa", sum := "955ed3d7378d5991f79ab69196c6463f3ab142291c4a9846eef4b5f9d3dbadf1", func := "joist/joistlaw08.TableFills", spec := "tableFills", apart := false }
def TableFillsSaid : Prop := tableFillsRow.holds Try.pinned (OpenSpec.ofChange tableFillsSpec)

/-- ITS FALSE NEIGHBOUR: 'it returns false'. Refute it at one input. -/
def tableFillsWrong : ChangeSpec := { name := "tableFills", fn := fun _ => fun
  | [d] => { results := [.lit (.bool false)], args := [d] }
  | _ => none }
def TableFillsWrongFalsely : Prop := tableFillsRow.holds Try.pinned (OpenSpec.ofChange tableFillsWrong)

/-- 'joistlaw08.TableSpent': WHATEVER THE INPUT: true; the input reads as it did. -/
def tableSpentSpec : ChangeSpec := { name := "tableSpent", fn := fun _ => fun
  | [d1, d2] => { results := [.lit (.bool true)], args := [d1, d2] }
  | _ => none }
def tableSpentRow : OpenClaim := { program := "ytbmocdcfcdmmkaa", sum := "955ed3d7378d5991f79ab69196c6463f3ab142291c4a9846eef4b5f9d3dbadf1", func := "joist/joistlaw08.TableSpent", spec := "tableSpent", apart := false }
def TableSpentSaid : Prop := tableSpentRow.holds Try.pinned (OpenSpec.ofChange tableSpentSpec)

/-- ITS FALSE NEIGHBOUR: 'it returns false'. Refute it at one input. -/
def tableSpentWrong : ChangeSpec := { name := "tableSpent", fn := fun _ => fun
  | [d1, d2] => { results := [.lit (.bool false)], args := [d1, d2] }
  | _ => none }
def TableSpentWrongFalsely : Prop := tableSpentRow.holds Try.pinned (OpenSpec.ofChange tableSpentWrong)

/-- 'joistlaw08.TableCodes': WHATEVER THE INPUT: true; the input reads as it did. -/
def tableCodesSpec : ChangeSpec := { name := "tableCodes", fn := fun _ => fun
  | [d1, d2] => { results := [.lit (.bool true)], args := [d1, d2] }
  | _ => none }
def tableCodesRow : OpenClaim := { program := "ytbmocdcfcdmmkaa", sum := "955ed3d7378d5991f79ab69196c6463f3ab142291c4a9846eef4b5f9d3dbadf1", func := "joist/joistlaw08.TableCodes", spec := "tableCodes", unfollowed := true, recurses := true, apart := false }
def TableCodesSaid : Prop := tableCodesRow.holds Try.pinned (OpenSpec.ofChange tableCodesSpec)

/-- ITS FALSE NEIGHBOUR: 'it returns false'. Refute it at one input. -/
def tableCodesWrong : ChangeSpec := { name := "tableCodes", fn := fun _ => fun
  | [d1, d2] => { results := [.lit (.bool false)], args := [d1, d2] }
  | _ => none }
def TableCodesWrongFalsely : Prop := tableCodesRow.holds Try.pinned (OpenSpec.ofChange tableCodesWrong)

/-- 'joistlaw08.TableBack': WHATEVER THE INPUT: true; the input reads as it did. -/
def tableBackSpec : ChangeSpec := { name := "tableBack", fn := fun _ => fun
  | [d1, d2] => { results := [.lit (.bool true)], args := [d1, d2] }
  | _ => none }
def tableBackRow : OpenClaim := { program := "ytbmocdcfcdmmkaa", sum := "955ed3d7378d5991f79ab69196c6463f3ab142291c4a9846eef4b5f9d3dbadf1", func := "joist/joistlaw08.TableBack", spec := "tableBack", unfollowed := true, recurses := true, apart := false }
def TableBackSaid : Prop := tableBackRow.holds Try.pinned (OpenSpec.ofChange tableBackSpec)

/-- ITS FALSE NEIGHBOUR: 'it returns false'. Refute it at one input. -/
def tableBackWrong : ChangeSpec := { name := "tableBack", fn := fun _ => fun
  | [d1, d2] => { results := [.lit (.bool false)], args := [d1, d2] }
  | _ => none }
def TableBackWrongFalsely : Prop := tableBackRow.holds Try.pinned (OpenSpec.ofChange tableBackWrong)

/- THE SECOND FORM. 'bulk': how many values and letters a reading holds, each counted each time it is reached (what is shared counts as often as it is met; a slice's spare places count too). A statement '..UptoSaid' is the law's where the arguments, and the package variables that the reading takes, are together of bulk at most 1048576: NARROWER than '..Said'. Prove '..Said' where nothing that the law and all that it calls make is longer than what came in: it says more and counts as full. Else prove '..UptoSaid'. A law counts once. -/
mutual
def uptoBulk {H : Type} : DataW H → Nat
  | .lit (.string bytes) => bytes.length + 1
  | .lit _ => 1
  | .nil => 1
  | .ptr d => uptoBulk d + 1
  | .slice elems spare => uptoBulkAll elems + uptoBulkAll spare + 1
  | .agg parts => uptoBulkAll parts + 1
  | .iface _ d => uptoBulk d + 1
  | .map entries => uptoBulkEntries entries + 1
  | .held _ => 1
def uptoBulkAll {H : Type} : List (DataW H) → Nat
  | [] => 0
  | d :: r => uptoBulk d + uptoBulkAll r
def uptoBulkEntries {H : Type} : List (Lit × DataW H) → Nat
  | [] => 0
  | x :: r => uptoBulkEntry x + uptoBulkEntries r
def uptoBulkEntry {H : Type} : Lit × DataW H → Nat
  | (.string bytes, d) => bytes.length + uptoBulk d + 1
  | (_, d) => uptoBulk d + 1
 end
def uptoSmall : (H : Type) → List (DataW H) → Bool := fun _ ds => decide (uptoBulkAll ds ≤ 1048576)
def OpenSpec.upto (s : _root_.Go.ChangeSpec) : _root_.Go.OpenSpec := { _root_.Go.OpenSpec.ofChange s with cond := some uptoSmall }

/-- 'joistlaw08.TableTurns', WHERE WHAT IT READS IS OF BULK AT MOST 1048576: true; the input reads as it did. -/
def tableTurnsUptoRow : OpenClaim := { program := "ytbmocdcfcdmmkaa", sum := "955ed3d7378d5991f79ab69196c6463f3ab142291c4a9846eef4b5f9d3dbadf1", func := "joist/joistlaw08.TableTurns", spec := "tableTurns", apart := false, narrowed := true }
def TableTurnsUptoSaid : Prop := tableTurnsUptoRow.holds Try.pinned (OpenSpec.upto tableTurnsSpec)

/-- 'joistlaw08.TableStale', WHERE WHAT IT READS IS OF BULK AT MOST 1048576: true; the input reads as it did. -/
def tableStaleUptoRow : OpenClaim := { program := "ytbmocdcfcdmmkaa", sum := "955ed3d7378d5991f79ab69196c6463f3ab142291c4a9846eef4b5f9d3dbadf1", func := "joist/joistlaw08.TableStale", spec := "tableStale", apart := false, narrowed := true }
def TableStaleUptoSaid : Prop := tableStaleUptoRow.holds Try.pinned (OpenSpec.upto tableStaleSpec)

/-- 'joistlaw08.TableTells', WHERE WHAT IT READS IS OF BULK AT MOST 1048576: true; the input reads as it did. -/
def tableTellsUptoRow : OpenClaim := { program := "ytbmocdcfcdmmkaa", sum := "955ed3d7378d5991f79ab69196c6463f3ab142291c4a9846eef4b5f9d3dbadf1", func := "joist/joistlaw08.TableTells", spec := "tableTells", apart := false, narrowed := true }
def TableTellsUptoSaid : Prop := tableTellsUptoRow.holds Try.pinned (OpenSpec.upto tableTellsSpec)

/-- 'joistlaw08.TableFills', WHERE WHAT IT READS IS OF BULK AT MOST 1048576: true; the input reads as it did. -/
def tableFillsUptoRow : OpenClaim := { program := "ytbmocdcfcdmmkaa", sum := "955ed3d7378d5991f79ab69196c6463f3ab142291c4a9846eef4b5f9d3dbadf1", func := "joist/joistlaw08.TableFills", spec := "tableFills", apart := false, narrowed := true }
def TableFillsUptoSaid : Prop := tableFillsUptoRow.holds Try.pinned (OpenSpec.upto tableFillsSpec)

/-- 'joistlaw08.TableSpent', WHERE WHAT IT READS IS OF BULK AT MOST 1048576: true; the input reads as it did. -/
def tableSpentUptoRow : OpenClaim := { program := "ytbmocdcfcdmmkaa", sum := "955ed3d7378d5991f79ab69196c6463f3ab142291c4a9846eef4b5f9d3dbadf1", func := "joist/joistlaw08.TableSpent", spec := "tableSpent", apart := false, narrowed := true }
def TableSpentUptoSaid : Prop := tableSpentUptoRow.holds Try.pinned (OpenSpec.upto tableSpentSpec)

/-- 'joistlaw08.TableCodes', WHERE WHAT IT READS IS OF BULK AT MOST 1048576: true; the input reads as it did. -/
def tableCodesUptoRow : OpenClaim := { program := "ytbmocdcfcdmmkaa", sum := "955ed3d7378d5991f79ab69196c6463f3ab142291c4a9846eef4b5f9d3dbadf1", func := "joist/joistlaw08.TableCodes", spec := "tableCodes", unfollowed := true, recurses := true, apart := false, narrowed := true }
def TableCodesUptoSaid : Prop := tableCodesUptoRow.holds Try.pinned (OpenSpec.upto tableCodesSpec)

/-- 'joistlaw08.TableBack', WHERE WHAT IT READS IS OF BULK AT MOST 1048576: true; the input reads as it did. -/
def tableBackUptoRow : OpenClaim := { program := "ytbmocdcfcdmmkaa", sum := "955ed3d7378d5991f79ab69196c6463f3ab142291c4a9846eef4b5f9d3dbadf1", func := "joist/joistlaw08.TableBack", spec := "tableBack", unfollowed := true, recurses := true, apart := false, narrowed := true }
def TableBackUptoSaid : Prop := tableBackUptoRow.holds Try.pinned (OpenSpec.upto tableBackSpec)

end Rows
end Go.Proofs.Ytbmocdcfcdmmkaa
