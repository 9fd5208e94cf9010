/-
  No cell of these rows narrows 'for every input' (looked for: loops, veiled, ifaces, maps, wideKeys, modest, calm, conditions, laid).
  DERIVED. THE GIVEN ROWS OF THIS SEAT. 6 by the template 'for every input the law returns true; each argument reads behind the call as it read before'; 0 by the template 'total and deterministic' (their statements: YtppccaacbpkgiaaTotals.lean).
  GIVEN WITH THE SEED: the statements are not yours to turn. If you find one false, say at which input.
  Laid BY PROGRAM, IN A SANDBOX (cutbox-rows.mjs): the forced cells as the released guide's own fill.sh prints them over the translation 47b0ed7fc35cfc59… (all of the seat's roots in one cut). By AI agents, Wed Nov 11 2026. No macro, syntax, notation, axiom, sorry.
-/
import Derived.Test.YtppccaacbpkgiaaChecked
import GoSem.Claim
import GoSem.ClaimJoined
import GoSem.ClaimMapViews
import Derived.JoinedTies
import Derived.KernelRfl
namespace Go.Proofs.Ytppccaacbpkgiaa
/- THE CELL 'sum', in the pinned program and in every row, IS THE sha256 OF THE DUMP (.gsa) THAT YtppccaacbpkgiaaProg.lean LOADS. Nothing in Lean hashes anything: it is a label: what it is worth is what the hold of that sum in a sandbox is worth. -/
noncomputable def Try.pinned : Pinned := { name := "ytppccaacbpkgiaa", sum := "47b0ed7fc35cfc595f2ce48d628be5f8009fa6e5629b8f1aaedfa0eed7980baf", checked := Try.checked }
namespace Rows
def none {H : Type} : Left H := { results := [], args := [] }

/-- 'joistlaw05.WalCodes': WHATEVER THE INPUT: true; the input reads as it did. -/
def walCodesSpec : ChangeSpec := { name := "walCodes", fn := fun _ => fun
  | [d1, d2, d3, d4] => { results := [.lit (.bool true)], args := [d1, d2, d3, d4] }
  | _ => none }
def walCodesRow : OpenClaim := { program := "ytppccaacbpkgiaa", sum := "47b0ed7fc35cfc595f2ce48d628be5f8009fa6e5629b8f1aaedfa0eed7980baf", func := "joist/joistlaw05.WalCodes", spec := "walCodes", unfollowed := true, recurses := true, apart := false }
def WalCodesSaid : Prop := walCodesRow.holds Try.pinned (OpenSpec.ofChange walCodesSpec)

/-- ITS FALSE NEIGHBOUR: 'it returns false'. Refute it at one input. -/
def walCodesWrong : ChangeSpec := { name := "walCodes", fn := fun _ => fun
  | [d1, d2, d3, d4] => { results := [.lit (.bool false)], args := [d1, d2, d3, d4] }
  | _ => none }
def WalCodesWrongFalsely : Prop := walCodesRow.holds Try.pinned (OpenSpec.ofChange walCodesWrong)

/-- 'joistlaw05.WalRooms': WHATEVER THE INPUT: true; the input reads as it did. -/
def walRoomsSpec : ChangeSpec := { name := "walRooms", fn := fun _ => fun
  | [d1, d2] => { results := [.lit (.bool true)], args := [d1, d2] }
  | _ => none }
def walRoomsRow : OpenClaim := { program := "ytppccaacbpkgiaa", sum := "47b0ed7fc35cfc595f2ce48d628be5f8009fa6e5629b8f1aaedfa0eed7980baf", func := "joist/joistlaw05.WalRooms", spec := "walRooms", unfollowed := true, recurses := true, apart := false }
def WalRoomsSaid : Prop := walRoomsRow.holds Try.pinned (OpenSpec.ofChange walRoomsSpec)

/-- ITS FALSE NEIGHBOUR: 'it returns false'. Refute it at one input. -/
def walRoomsWrong : ChangeSpec := { name := "walRooms", fn := fun _ => fun
  | [d1, d2] => { results := [.lit (.bool false)], args := [d1, d2] }
  | _ => none }
def WalRoomsWrongFalsely : Prop := walRoomsRow.holds Try.pinned (OpenSpec.ofChange walRoomsWrong)

/-- 'joistlaw05.WalCounts': WHATEVER THE INPUT: true; the input reads as it did. -/
def walCountsSpec : ChangeSpec := { name := "walCounts", fn := fun _ => fun
  | [d1, d2, d3, d4] => { results := [.lit (.bool true)], args := [d1, d2, d3, d4] }
  | _ => none }
def walCountsRow : OpenClaim := { program := "ytppccaacbpkgiaa", sum := "47b0ed7fc35cfc595f2ce48d628be5f8009fa6e5629b8f1aaedfa0eed7980baf", func := "joist/joistlaw05.WalCounts", spec := "walCounts", unfollowed := true, recurses := true, apart := false }
def WalCountsSaid : Prop := walCountsRow.holds Try.pinned (OpenSpec.ofChange walCountsSpec)

/-- ITS FALSE NEIGHBOUR: 'it returns false'. Refute it at one input. -/
def walCountsWrong : ChangeSpec := { name := "walCounts", fn := fun _ => fun
  | [d1, d2, d3, d4] => { results := [.lit (.bool false)], args := [d1, d2, d3, d4] }
  | _ => none }
def WalCountsWrongFalsely : Prop := walCountsRow.holds Try.pinned (OpenSpec.ofChange walCountsWrong)

/-- 'joistlaw05.WalReads': WHATEVER THE INPUT: true; the input reads as it did. -/
def walReadsSpec : ChangeSpec := { name := "walReads", fn := fun _ => fun
  | [d1, d2] => { results := [.lit (.bool true)], args := [d1, d2] }
  | _ => none }
def walReadsRow : OpenClaim := { program := "ytppccaacbpkgiaa", sum := "47b0ed7fc35cfc595f2ce48d628be5f8009fa6e5629b8f1aaedfa0eed7980baf", func := "joist/joistlaw05.WalReads", spec := "walReads", unfollowed := true, recurses := true, apart := false }
def WalReadsSaid : Prop := walReadsRow.holds Try.pinned (OpenSpec.ofChange walReadsSpec)

/-- ITS FALSE NEIGHBOUR: 'it returns false'. Refute it at one input. -/
def walReadsWrong : ChangeSpec := { name := "walReads", fn := fun _ => fun
  | [d1, d2] => { results := [.lit (.bool false)], args := [d1, d2] }
  | _ => none }
def WalReadsWrongFalsely : Prop := walReadsRow.holds Try.pinned (OpenSpec.ofChange walReadsWrong)

/-- 'joistlaw05.WalBack': WHATEVER THE INPUT: true; the input reads as it did. -/
def walBackSpec : ChangeSpec := { name := "walBack", fn := fun _ => fun
  | [d1, d2, d3] => { results := [.lit (.bool true)], args := [d1, d2, d3] }
  | _ => none }
def walBackRow : OpenClaim := { program := "ytppccaacbpkgiaa", sum := "47b0ed7fc35cfc595f2ce48d628be5f8009fa6e5629b8f1aaedfa0eed7980baf", func := "joist/joistlaw05.WalBack", spec := "walBack", unfollowed := true, recurses := true, apart := false }
def WalBackSaid : Prop := walBackRow.holds Try.pinned (OpenSpec.ofChange walBackSpec)

/-- ITS FALSE NEIGHBOUR: 'it returns false'. Refute it at one input. -/
def walBackWrong : ChangeSpec := { name := "walBack", fn := fun _ => fun
  | [d1, d2, d3] => { results := [.lit (.bool false)], args := [d1, d2, d3] }
  | _ => none }
def WalBackWrongFalsely : Prop := walBackRow.holds Try.pinned (OpenSpec.ofChange walBackWrong)

/-- 'joistlaw05.WalAtomic': WHATEVER THE INPUT: true; the input reads as it did. -/
def walAtomicSpec : ChangeSpec := { name := "walAtomic", fn := fun _ => fun
  | [d1, d2, d3, d4, d5] => { results := [.lit (.bool true)], args := [d1, d2, d3, d4, d5] }
  | _ => none }
def walAtomicRow : OpenClaim := { program := "ytppccaacbpkgiaa", sum := "47b0ed7fc35cfc595f2ce48d628be5f8009fa6e5629b8f1aaedfa0eed7980baf", func := "joist/joistlaw05.WalAtomic", spec := "walAtomic", unfollowed := true, recurses := true, apart := false }
def WalAtomicSaid : Prop := walAtomicRow.holds Try.pinned (OpenSpec.ofChange walAtomicSpec)

/-- ITS FALSE NEIGHBOUR: 'it returns false'. Refute it at one input. -/
def walAtomicWrong : ChangeSpec := { name := "walAtomic", fn := fun _ => fun
  | [d1, d2, d3, d4, d5] => { results := [.lit (.bool false)], args := [d1, d2, d3, d4, d5] }
  | _ => none }
def WalAtomicWrongFalsely : Prop := walAtomicRow.holds Try.pinned (OpenSpec.ofChange walAtomicWrong)

/- THE SECOND FORM. 'bulk': how many values and letters a reading holds, each counted each time it is reached (what is shared counts as often as it is met; a slice's spare places count too). A statement '..UptoSaid' is the law's where the arguments, and the package variables that the reading takes, are together of bulk at most 1048576: NARROWER than '..Said'. Prove '..Said' where nothing that the law and all that it calls make is longer than what came in: it says more and counts as full. Else prove '..UptoSaid'. A law counts once. -/
mutual
def uptoBulk {H : Type} : DataW H → Nat
  | .lit (.string bytes) => bytes.length + 1
  | .lit _ => 1
  | .nil => 1
  | .ptr d => uptoBulk d + 1
  | .slice elems spare => uptoBulkAll elems + uptoBulkAll spare + 1
  | .agg parts => uptoBulkAll parts + 1
  | .iface _ d => uptoBulk d + 1
  | .map entries => uptoBulkEntries entries + 1
  | .held _ => 1
def uptoBulkAll {H : Type} : List (DataW H) → Nat
  | [] => 0
  | d :: r => uptoBulk d + uptoBulkAll r
def uptoBulkEntries {H : Type} : List (Lit × DataW H) → Nat
  | [] => 0
  | x :: r => uptoBulkEntry x + uptoBulkEntries r
def uptoBulkEntry {H : Type} : Lit × DataW H → Nat
  | (.string bytes, d) => bytes.length + uptoBulk d + 1
  | (_, d) => uptoBulk d + 1
 end
def uptoSmall : (H : Type) → List (DataW H) → Bool := fun _ ds => decide (uptoBulkAll ds ≤ 1048576)
def OpenSpec.upto (s : _root_.Go.ChangeSpec) : _root_.Go.OpenSpec := { _root_.Go.OpenSpec.ofChange s with cond := some uptoSmall }

/-- 'joistlaw05.WalCodes', WHERE WHAT IT READS IS OF BULK AT MOST 1048576: true; the input reads as it did. -/
def walCodesUptoRow : OpenClaim := { program := "ytppccaacbpkgiaa", sum := "47b0ed7fc35cfc595f2ce48d628be5f8009fa6e5629b8f1aaedfa0eed7980baf", func := "joist/joistlaw05.WalCodes", spec := "walCodes", unfollowed := true, recurses := true, apart := false, narrowed := true }
def WalCodesUptoSaid : Prop := walCodesUptoRow.holds Try.pinned (OpenSpec.upto walCodesSpec)

/-- 'joistlaw05.WalRooms', WHERE WHAT IT READS IS OF BULK AT MOST 1048576: true; the input reads as it did. -/
def walRoomsUptoRow : OpenClaim := { program := "ytppccaacbpkgiaa", sum := "47b0ed7fc35cfc595f2ce48d628be5f8009fa6e5629b8f1aaedfa0eed7980baf", func := "joist/joistlaw05.WalRooms", spec := "walRooms", unfollowed := true, recurses := true, apart := false, narrowed := true }
def WalRoomsUptoSaid : Prop := walRoomsUptoRow.holds Try.pinned (OpenSpec.upto walRoomsSpec)

/-- 'joistlaw05.WalCounts', WHERE WHAT IT READS IS OF BULK AT MOST 1048576: true; the input reads as it did. -/
def walCountsUptoRow : OpenClaim := { program := "ytppccaacbpkgiaa", sum := "47b0ed7fc35cfc595f2ce48d628be5f8009fa6e5629b8f1aaedfa0eed7980baf", func := "joist/joistlaw05.WalCounts", spec := "walCounts", unfollowed := true, recurses := true, apart := false, narrowed := true }
def WalCountsUptoSaid : Prop := walCountsUptoRow.holds Try.pinned (OpenSpec.upto walCountsSpec)

/-- 'joistlaw05.WalReads', WHERE WHAT IT READS IS OF BULK AT MOST 1048576: true; the input reads as it did. -/
def walReadsUptoRow : OpenClaim := { program := "ytppccaacbpkgiaa", sum := "47b0ed7fc35cfc595f2ce48d628be5f8009fa6e5629b8f1aaedfa0eed7980baf", func := "joist/joistlaw05.WalReads", spec := "walReads", unfollowed := true, recurses := true, apart := false, narrowed := true }
def WalReadsUptoSaid : Prop := walReadsUptoRow.holds Try.pinned (OpenSpec.upto walReadsSpec)

/-- 'joistlaw05.WalBack', WHERE WHAT IT READS IS OF BULK AT MOST 1048576: true; the input reads as it did. -/
def walBackUptoRow : OpenClaim := { program := "ytppccaacbpkgiaa", sum := "47b0ed7fc35cfc595f2ce48d628be5f8009fa6e5629b8f1aaedfa0eed7980baf", func := "joist/joistlaw05.WalBack", spec := "walBack", unfollowed := true, recurses := true, apart := false, narrowed := true }
def WalBackUptoSaid : Prop := walBackUptoRow.holds Try.pinned (OpenSpec.upto walBackSpec)

/-- 'joistlaw05.WalAtomic', WHERE WHAT IT READS IS OF BULK AT MOST 1048576: true; the input reads as it did. -/
def walAtomicUptoRow : OpenClaim := { program := "ytppccaacbpkgiaa", sum := "47b0ed7fc35cfc595f2ce48d628be5f8009fa6e5629b8f1aaedfa0eed7980baf", func := "joist/joistlaw05.WalAtomic", spec := "walAtomic", unfollowed := true, recurses := true, apart := false, narrowed := true }
def WalAtomicUptoSaid : Prop := walAtomicUptoRow.holds Try.pinned (OpenSpec.upto walAtomicSpec)

end Rows
end Go.Proofs.Ytppccaacbpkgiaa
