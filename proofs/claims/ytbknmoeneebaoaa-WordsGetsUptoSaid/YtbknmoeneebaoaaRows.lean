/-
  No cell of these rows narrows 'for every input' (looked for: loops, veiled, ifaces, maps, wideKeys, modest, calm, conditions, laid).
  DERIVED. THE GIVEN ROWS OF THIS SEAT. 6 by the template 'for every input the law returns true; each argument reads behind the call as it read before'; 0 by the template 'total and deterministic' (their statements: YtbknmoeneebaoaaTotals.lean).
  GIVEN WITH THE SEED: the statements are not yours to turn. If you find one false, say at which input.
  Laid BY PROGRAM, IN A SANDBOX (cutbox-rows.mjs): the forced cells as the released guide's own fill.sh prints them over the translation 4caebc2bab073dbf… (all of the seat's roots in one cut). By AI agents, Wed Nov 11 2026. No macro, syntax, notation, axiom, sorry.
-/
import Derived.Test.YtbknmoeneebaoaaChecked
import GoSem.Claim
import GoSem.ClaimJoined
import GoSem.ClaimMapViews
import Derived.JoinedTies
import Derived.KernelRfl
namespace Go.Proofs.Ytbknmoeneebaoaa
/- THE CELL 'sum', in the pinned program and in every row, IS THE sha256 OF THE DUMP (.gsa) THAT YtbknmoeneebaoaaProg.lean LOADS. Nothing in Lean hashes anything: it is a label: what it is worth is what the hold of that sum in a sandbox is worth. -/
noncomputable def Try.pinned : Pinned := { name := "ytbknmoeneebaoaa", sum := "4caebc2bab073dbf67bff284cd6a74733112a9791366abe4861bd687f84bba6d", checked := Try.checked }
namespace Rows
def none {H : Type} : Left H := { results := [], args := [] }

/-- 'joistlaw01.WordsPuts': WHATEVER THE INPUT: true; the input reads as it did. -/
def wordsPutsSpec : ChangeSpec := { name := "wordsPuts", fn := fun _ => fun
  | [d1, d2, d3, d4] => { results := [.lit (.bool true)], args := [d1, d2, d3, d4] }
  | _ => none }
def wordsPutsRow : OpenClaim := { program := "ytbknmoeneebaoaa", sum := "4caebc2bab073dbf67bff284cd6a74733112a9791366abe4861bd687f84bba6d", func := "joist/joistlaw01.WordsPuts", spec := "wordsPuts", apart := false }
def WordsPutsSaid : Prop := wordsPutsRow.holds Try.pinned (OpenSpec.ofChange wordsPutsSpec)

/-- ITS FALSE NEIGHBOUR: 'it returns false'. Refute it at one input. -/
def wordsPutsWrong : ChangeSpec := { name := "wordsPuts", fn := fun _ => fun
  | [d1, d2, d3, d4] => { results := [.lit (.bool false)], args := [d1, d2, d3, d4] }
  | _ => none }
def WordsPutsWrongFalsely : Prop := wordsPutsRow.holds Try.pinned (OpenSpec.ofChange wordsPutsWrong)

/-- 'joistlaw01.WordsBack': WHATEVER THE INPUT: true; the input reads as it did. -/
def wordsBackSpec : ChangeSpec := { name := "wordsBack", fn := fun _ => fun
  | [d1, d2, d3, d4] => { results := [.lit (.bool true)], args := [d1, d2, d3, d4] }
  | _ => none }
def wordsBackRow : OpenClaim := { program := "ytbknmoeneebaoaa", sum := "4caebc2bab073dbf67bff284cd6a74733112a9791366abe4861bd687f84bba6d", func := "joist/joistlaw01.WordsBack", spec := "wordsBack", apart := false }
def WordsBackSaid : Prop := wordsBackRow.holds Try.pinned (OpenSpec.ofChange wordsBackSpec)

/-- ITS FALSE NEIGHBOUR: 'it returns false'. Refute it at one input. -/
def wordsBackWrong : ChangeSpec := { name := "wordsBack", fn := fun _ => fun
  | [d1, d2, d3, d4] => { results := [.lit (.bool false)], args := [d1, d2, d3, d4] }
  | _ => none }
def WordsBackWrongFalsely : Prop := wordsBackRow.holds Try.pinned (OpenSpec.ofChange wordsBackWrong)

/-- 'joistlaw01.WordsOrders': WHATEVER THE INPUT: true; the input reads as it did. -/
def wordsOrdersSpec : ChangeSpec := { name := "wordsOrders", fn := fun _ => fun
  | [d1, d2, d3, d4, d5] => { results := [.lit (.bool true)], args := [d1, d2, d3, d4, d5] }
  | _ => none }
def wordsOrdersRow : OpenClaim := { program := "ytbknmoeneebaoaa", sum := "4caebc2bab073dbf67bff284cd6a74733112a9791366abe4861bd687f84bba6d", func := "joist/joistlaw01.WordsOrders", spec := "wordsOrders", apart := false }
def WordsOrdersSaid : Prop := wordsOrdersRow.holds Try.pinned (OpenSpec.ofChange wordsOrdersSpec)

/-- ITS FALSE NEIGHBOUR: 'it returns false'. Refute it at one input. -/
def wordsOrdersWrong : ChangeSpec := { name := "wordsOrders", fn := fun _ => fun
  | [d1, d2, d3, d4, d5] => { results := [.lit (.bool false)], args := [d1, d2, d3, d4, d5] }
  | _ => none }
def WordsOrdersWrongFalsely : Prop := wordsOrdersRow.holds Try.pinned (OpenSpec.ofChange wordsOrdersWrong)

/-- 'joistlaw01.WordsZeros': WHATEVER THE INPUT: true; the input reads as it did. -/
def wordsZerosSpec : ChangeSpec := { name := "wordsZeros", fn := fun _ => fun
  | [d1, d2] => { results := [.lit (.bool true)], args := [d1, d2] }
  | _ => none }
def wordsZerosRow : OpenClaim := { program := "ytbknmoeneebaoaa", sum := "4caebc2bab073dbf67bff284cd6a74733112a9791366abe4861bd687f84bba6d", func := "joist/joistlaw01.WordsZeros", spec := "wordsZeros", apart := false }
def WordsZerosSaid : Prop := wordsZerosRow.holds Try.pinned (OpenSpec.ofChange wordsZerosSpec)

/-- ITS FALSE NEIGHBOUR: 'it returns false'. Refute it at one input. -/
def wordsZerosWrong : ChangeSpec := { name := "wordsZeros", fn := fun _ => fun
  | [d1, d2] => { results := [.lit (.bool false)], args := [d1, d2] }
  | _ => none }
def WordsZerosWrongFalsely : Prop := wordsZerosRow.holds Try.pinned (OpenSpec.ofChange wordsZerosWrong)

/-- 'joistlaw01.WordsRows': WHATEVER THE INPUT: true; the input reads as it did. -/
def wordsRowsSpec : ChangeSpec := { name := "wordsRows", fn := fun _ => fun
  | [d1, d2] => { results := [.lit (.bool true)], args := [d1, d2] }
  | _ => none }
def wordsRowsRow : OpenClaim := { program := "ytbknmoeneebaoaa", sum := "4caebc2bab073dbf67bff284cd6a74733112a9791366abe4861bd687f84bba6d", func := "joist/joistlaw01.WordsRows", spec := "wordsRows", apart := false }
def WordsRowsSaid : Prop := wordsRowsRow.holds Try.pinned (OpenSpec.ofChange wordsRowsSpec)

/-- ITS FALSE NEIGHBOUR: 'it returns false'. Refute it at one input. -/
def wordsRowsWrong : ChangeSpec := { name := "wordsRows", fn := fun _ => fun
  | [d1, d2] => { results := [.lit (.bool false)], args := [d1, d2] }
  | _ => none }
def WordsRowsWrongFalsely : Prop := wordsRowsRow.holds Try.pinned (OpenSpec.ofChange wordsRowsWrong)

/-- 'joistlaw01.WordsGets': WHATEVER THE INPUT: true; the input reads as it did. -/
def wordsGetsSpec : ChangeSpec := { name := "wordsGets", fn := fun _ => fun
  | [d1, d2] => { results := [.lit (.bool true)], args := [d1, d2] }
  | _ => none }
def wordsGetsRow : OpenClaim := { program := "ytbknmoeneebaoaa", sum := "4caebc2bab073dbf67bff284cd6a74733112a9791366abe4861bd687f84bba6d", func := "joist/joistlaw01.WordsGets", spec := "wordsGets", apart := false }
def WordsGetsSaid : Prop := wordsGetsRow.holds Try.pinned (OpenSpec.ofChange wordsGetsSpec)

/-- ITS FALSE NEIGHBOUR: 'it returns false'. Refute it at one input. -/
def wordsGetsWrong : ChangeSpec := { name := "wordsGets", fn := fun _ => fun
  | [d1, d2] => { results := [.lit (.bool false)], args := [d1, d2] }
  | _ => none }
def WordsGetsWrongFalsely : Prop := wordsGetsRow.holds Try.pinned (OpenSpec.ofChange wordsGetsWrong)

/- THE SECOND FORM. 'bulk': how many values and letters a reading holds, each counted each time it is reached (what is shared counts as often as it is met; a slice's spare places count too). A statement '..UptoSaid' is the law's where the arguments, and the package variables that the reading takes, are together of bulk at most 1048576: NARROWER than '..Said'. Prove '..Said' where nothing that the law and all that it calls make is longer than what came in: it says more and counts as full. Else prove '..UptoSaid'. A law counts once. -/
mutual
def uptoBulk {H : Type} : DataW H → Nat
  | .lit (.string bytes) => bytes.length + 1
  | .lit _ => 1
  | .nil => 1
  | .ptr d => uptoBulk d + 1
  | .slice elems spare => uptoBulkAll elems + uptoBulkAll spare + 1
  | .agg parts => uptoBulkAll parts + 1
  | .iface _ d => uptoBulk d + 1
  | .map entries => uptoBulkEntries entries + 1
  | .held _ => 1
def uptoBulkAll {H : Type} : List (DataW H) → Nat
  | [] => 0
  | d :: r => uptoBulk d + uptoBulkAll r
def uptoBulkEntries {H : Type} : List (Lit × DataW H) → Nat
  | [] => 0
  | x :: r => uptoBulkEntry x + uptoBulkEntries r
def uptoBulkEntry {H : Type} : Lit × DataW H → Nat
  | (.string bytes, d) => bytes.length + uptoBulk d + 1
  | (_, d) => uptoBulk d + 1
 end
def uptoSmall : (H : Type) → List (DataW H) → Bool := fun _ ds => decide (uptoBulkAll ds ≤ 1048576)
def OpenSpec.upto (s : _root_.Go.ChangeSpec) : _root_.Go.OpenSpec := { _root_.Go.OpenSpec.ofChange s with cond := some uptoSmall }

/-- 'joistlaw01.WordsPuts', WHERE WHAT IT READS IS OF BULK AT MOST 1048576: true; the input reads as it did. -/
def wordsPutsUptoRow : OpenClaim := { program := "ytbknmoeneebaoaa", sum := "4caebc2bab073dbf67bff284cd6a74733112a9791366abe4861bd687f84bba6d", func := "joist/joistlaw01.WordsPuts", spec := "wordsPuts", apart := false, narrowed := true }
def WordsPutsUptoSaid : Prop := wordsPutsUptoRow.holds Try.pinned (OpenSpec.upto wordsPutsSpec)

/-- 'joistlaw01.WordsBack', WHERE WHAT IT READS IS OF BULK AT MOST 1048576: true; the input reads as it did. -/
def wordsBackUptoRow : OpenClaim := { program := "ytbknmoeneebaoaa", sum := "4caebc2bab073dbf67bff284cd6a74733112a9791366abe4861bd687f84bba6d", func := "joist/joistlaw01.WordsBack", spec := "wordsBack", apart := false, narrowed := true }
def WordsBackUptoSaid : Prop := wordsBackUptoRow.holds Try.pinned (OpenSpec.upto wordsBackSpec)

/-- 'joistlaw01.WordsOrders', WHERE WHAT IT READS IS OF BULK AT MOST 1048576: true; the input reads as it did. -/
def wordsOrdersUptoRow : OpenClaim := { program := "ytbknmoeneebaoaa", sum := "4caebc2bab073dbf67bff284cd6a74733112a9791366abe4861bd687f84bba6d", func := "joist/joistlaw01.WordsOrders", spec := "wordsOrders", apart := false, narrowed := true }
def WordsOrdersUptoSaid : Prop := wordsOrdersUptoRow.holds Try.pinned (OpenSpec.upto wordsOrdersSpec)

/-- 'joistlaw01.WordsZeros', WHERE WHAT IT READS IS OF BULK AT MOST 1048576: true; the input reads as it did. -/
def wordsZerosUptoRow : OpenClaim := { program := "ytbknmoeneebaoaa", sum := "4caebc2bab073dbf67bff284cd6a74733112a9791366abe4861bd687f84bba6d", func := "joist/joistlaw01.WordsZeros", spec := "wordsZeros", apart := false, narrowed := true }
def WordsZerosUptoSaid : Prop := wordsZerosUptoRow.holds Try.pinned (OpenSpec.upto wordsZerosSpec)

/-- 'joistlaw01.WordsRows', WHERE WHAT IT READS IS OF BULK AT MOST 1048576: true; the input reads as it did. -/
def wordsRowsUptoRow : OpenClaim := { program := "ytbknmoeneebaoaa", sum := "4caebc2bab073dbf67bff284cd6a74733112a9791366abe4861bd687f84bba6d", func := "joist/joistlaw01.WordsRows", spec := "wordsRows", apart := false, narrowed := true }
def WordsRowsUptoSaid : Prop := wordsRowsUptoRow.holds Try.pinned (OpenSpec.upto wordsRowsSpec)

/-- 'joistlaw01.WordsGets', WHERE WHAT IT READS IS OF BULK AT MOST 1048576: true; the input reads as it did. -/
def wordsGetsUptoRow : OpenClaim := { program := "ytbknmoeneebaoaa", sum := "4caebc2bab073dbf67bff284cd6a74733112a9791366abe4861bd687f84bba6d", func := "joist/joistlaw01.WordsGets", spec := "wordsGets", apart := false, narrowed := true }
def WordsGetsUptoSaid : Prop := wordsGetsUptoRow.holds Try.pinned (OpenSpec.upto wordsGetsSpec)

end Rows
end Go.Proofs.Ytbknmoeneebaoaa
