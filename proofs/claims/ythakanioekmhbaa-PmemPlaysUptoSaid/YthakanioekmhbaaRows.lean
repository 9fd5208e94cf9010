/-
  No cell of these rows narrows 'for every input' (looked for: loops, veiled, ifaces, maps, wideKeys, modest, calm, conditions, laid).
  DERIVED. THE GIVEN ROWS OF THIS SEAT. 5 by the template 'for every input the law returns true; each argument reads behind the call as it read before'; 0 by the template 'total and deterministic' (their statements: YthakanioekmhbaaTotals.lean).
  GIVEN WITH THE SEED: the statements are not yours to turn. If you find one false, say at which input.
  Laid BY PROGRAM, IN A SANDBOX (cutbox-rows.mjs): the forced cells as the released guide's own fill.sh prints them over the translation 8af2a3859f2fb610… (all of the seat's roots in one cut). By AI agents, Wed Nov 11 2026. No macro, syntax, notation, axiom, sorry.
-/
import Derived.Test.YthakanioekmhbaaChecked
import GoSem.Claim
import GoSem.ClaimJoined
import GoSem.ClaimMapViews
import Derived.JoinedTies
import Derived.KernelRfl
namespace Go.Proofs.Ythakanioekmhbaa
/- THE CELL 'sum', in the pinned program and in every row, IS THE sha256 OF THE DUMP (.gsa) THAT YthakanioekmhbaaProg.lean LOADS. Nothing in Lean hashes anything: it is a label: what it is worth is what the hold of that sum in a sandbox is worth. -/
noncomputable def Try.pinned : Pinned := { name := "ythakanioekmhbaa", sum := "8af2a3859f2fb6100c7fe13b6cdc608d691511bae98f7d08a8c7bf87d55bd04c", checked := Try.checked }
namespace Rows
def none {H : Type} : Left H := { results := [], args := [] }

/-- 'joistlaw03.PmemLasts': WHATEVER THE INPUT: true; the input reads as it did. -/
def pmemLastsSpec : ChangeSpec := { name := "pmemLasts", fn := fun _ => fun
  | [d1, d2, d3, d4, d5] => { results := [.lit (.bool true)], args := [d1, d2, d3, d4, d5] }
  | _ => none }
def pmemLastsRow : OpenClaim := { program := "ythakanioekmhbaa", sum := "8af2a3859f2fb6100c7fe13b6cdc608d691511bae98f7d08a8c7bf87d55bd04c", func := "joist/joistlaw03.PmemLasts", spec := "pmemLasts", unfollowed := true, recurses := true, apart := false }
def PmemLastsSaid : Prop := pmemLastsRow.holds Try.pinned (OpenSpec.ofChange pmemLastsSpec)

/-- ITS FALSE NEIGHBOUR: 'it returns false'. Refute it at one input. -/
def pmemLastsWrong : ChangeSpec := { name := "pmemLasts", fn := fun _ => fun
  | [d1, d2, d3, d4, d5] => { results := [.lit (.bool false)], args := [d1, d2, d3, d4, d5] }
  | _ => none }
def PmemLastsWrongFalsely : Prop := pmemLastsRow.holds Try.pinned (OpenSpec.ofChange pmemLastsWrong)

/-- 'joistlaw03.PmemCrashes': WHATEVER THE INPUT: true; the input reads as it did. -/
def pmemCrashesSpec : ChangeSpec := { name := "pmemCrashes", fn := fun _ => fun
  | [d1, d2] => { results := [.lit (.bool true)], args := [d1, d2] }
  | _ => none }
def pmemCrashesRow : OpenClaim := { program := "ythakanioekmhbaa", sum := "8af2a3859f2fb6100c7fe13b6cdc608d691511bae98f7d08a8c7bf87d55bd04c", func := "joist/joistlaw03.PmemCrashes", spec := "pmemCrashes", unfollowed := true, recurses := true, apart := false }
def PmemCrashesSaid : Prop := pmemCrashesRow.holds Try.pinned (OpenSpec.ofChange pmemCrashesSpec)

/-- ITS FALSE NEIGHBOUR: 'it returns false'. Refute it at one input. -/
def pmemCrashesWrong : ChangeSpec := { name := "pmemCrashes", fn := fun _ => fun
  | [d1, d2] => { results := [.lit (.bool false)], args := [d1, d2] }
  | _ => none }
def PmemCrashesWrongFalsely : Prop := pmemCrashesRow.holds Try.pinned (OpenSpec.ofChange pmemCrashesWrong)

/-- 'joistlaw03.PmemFails': WHATEVER THE INPUT: true; the input reads as it did. -/
def pmemFailsSpec : ChangeSpec := { name := "pmemFails", fn := fun _ => fun
  | [d1, d2, d3] => { results := [.lit (.bool true)], args := [d1, d2, d3] }
  | _ => none }
def pmemFailsRow : OpenClaim := { program := "ythakanioekmhbaa", sum := "8af2a3859f2fb6100c7fe13b6cdc608d691511bae98f7d08a8c7bf87d55bd04c", func := "joist/joistlaw03.PmemFails", spec := "pmemFails", unfollowed := true, recurses := true, apart := false }
def PmemFailsSaid : Prop := pmemFailsRow.holds Try.pinned (OpenSpec.ofChange pmemFailsSpec)

/-- ITS FALSE NEIGHBOUR: 'it returns false'. Refute it at one input. -/
def pmemFailsWrong : ChangeSpec := { name := "pmemFails", fn := fun _ => fun
  | [d1, d2, d3] => { results := [.lit (.bool false)], args := [d1, d2, d3] }
  | _ => none }
def PmemFailsWrongFalsely : Prop := pmemFailsRow.holds Try.pinned (OpenSpec.ofChange pmemFailsWrong)

/-- 'joistlaw03.PmemAsks': WHATEVER THE INPUT: true; the input reads as it did. -/
def pmemAsksSpec : ChangeSpec := { name := "pmemAsks", fn := fun _ => fun
  | [d1, d2, d3, d4] => { results := [.lit (.bool true)], args := [d1, d2, d3, d4] }
  | _ => none }
def pmemAsksRow : OpenClaim := { program := "ythakanioekmhbaa", sum := "8af2a3859f2fb6100c7fe13b6cdc608d691511bae98f7d08a8c7bf87d55bd04c", func := "joist/joistlaw03.PmemAsks", spec := "pmemAsks", unfollowed := true, recurses := true, apart := false }
def PmemAsksSaid : Prop := pmemAsksRow.holds Try.pinned (OpenSpec.ofChange pmemAsksSpec)

/-- ITS FALSE NEIGHBOUR: 'it returns false'. Refute it at one input. -/
def pmemAsksWrong : ChangeSpec := { name := "pmemAsks", fn := fun _ => fun
  | [d1, d2, d3, d4] => { results := [.lit (.bool false)], args := [d1, d2, d3, d4] }
  | _ => none }
def PmemAsksWrongFalsely : Prop := pmemAsksRow.holds Try.pinned (OpenSpec.ofChange pmemAsksWrong)

/-- 'joistlaw03.PmemPlays': WHATEVER THE INPUT: true; the input reads as it did. -/
def pmemPlaysSpec : ChangeSpec := { name := "pmemPlays", fn := fun _ => fun
  | [d1, d2] => { results := [.lit (.bool true)], args := [d1, d2] }
  | _ => none }
def pmemPlaysRow : OpenClaim := { program := "ythakanioekmhbaa", sum := "8af2a3859f2fb6100c7fe13b6cdc608d691511bae98f7d08a8c7bf87d55bd04c", func := "joist/joistlaw03.PmemPlays", spec := "pmemPlays", unfollowed := true, recurses := true, apart := false }
def PmemPlaysSaid : Prop := pmemPlaysRow.holds Try.pinned (OpenSpec.ofChange pmemPlaysSpec)

/-- ITS FALSE NEIGHBOUR: 'it returns false'. Refute it at one input. -/
def pmemPlaysWrong : ChangeSpec := { name := "pmemPlays", fn := fun _ => fun
  | [d1, d2] => { results := [.lit (.bool false)], args := [d1, d2] }
  | _ => none }
def PmemPlaysWrongFalsely : Prop := pmemPlaysRow.holds Try.pinned (OpenSpec.ofChange pmemPlaysWrong)

/- THE SECOND FORM. 'bulk': how many values and letters a reading holds, each counted each time it is reached (what is shared counts as often as it is met; a slice's spare places count too). A statement '..UptoSaid' is the law's where the arguments, and the package variables that the reading takes, are together of bulk at most 1048576: NARROWER than '..Said'. Prove '..Said' where nothing that the law and all that it calls make is longer than what came in: it says more and counts as full. Else prove '..UptoSaid'. A law counts once. -/
mutual
def uptoBulk {H : Type} : DataW H → Nat
  | .lit (.string bytes) => bytes.length + 1
  | .lit _ => 1
  | .nil => 1
  | .ptr d => uptoBulk d + 1
  | .slice elems spare => uptoBulkAll elems + uptoBulkAll spare + 1
  | .agg parts => uptoBulkAll parts + 1
  | .iface _ d => uptoBulk d + 1
  | .map entries => uptoBulkEntries entries + 1
  | .held _ => 1
def uptoBulkAll {H : Type} : List (DataW H) → Nat
  | [] => 0
  | d :: r => uptoBulk d + uptoBulkAll r
def uptoBulkEntries {H : Type} : List (Lit × DataW H) → Nat
  | [] => 0
  | x :: r => uptoBulkEntry x + uptoBulkEntries r
def uptoBulkEntry {H : Type} : Lit × DataW H → Nat
  | (.string bytes, d) => bytes.length + uptoBulk d + 1
  | (_, d) => uptoBulk d + 1
 end
def uptoSmall : (H : Type) → List (DataW H) → Bool := fun _ ds => decide (uptoBulkAll ds ≤ 1048576)
def OpenSpec.upto (s : _root_.Go.ChangeSpec) : _root_.Go.OpenSpec := { _root_.Go.OpenSpec.ofChange s with cond := some uptoSmall }

/-- 'joistlaw03.PmemLasts', WHERE WHAT IT READS IS OF BULK AT MOST 1048576: true; the input reads as it did. -/
def pmemLastsUptoRow : OpenClaim := { program := "ythakanioekmhbaa", sum := "8af2a3859f2fb6100c7fe13b6cdc608d691511bae98f7d08a8c7bf87d55bd04c", func := "joist/joistlaw03.PmemLasts", spec := "pmemLasts", unfollowed := true, recurses := true, apart := false, narrowed := true }
def PmemLastsUptoSaid : Prop := pmemLastsUptoRow.holds Try.pinned (OpenSpec.upto pmemLastsSpec)

/-- 'joistlaw03.PmemCrashes', WHERE WHAT IT READS IS OF BULK AT MOST 1048576: true; the input reads as it did. -/
def pmemCrashesUptoRow : OpenClaim := { program := "ythakanioekmhbaa", sum := "8af2a3859f2fb6100c7fe13b6cdc608d691511bae98f7d08a8c7bf87d55bd04c", func := "joist/joistlaw03.PmemCrashes", spec := "pmemCrashes", unfollowed := true, recurses := true, apart := false, narrowed := true }
def PmemCrashesUptoSaid : Prop := pmemCrashesUptoRow.holds Try.pinned (OpenSpec.upto pmemCrashesSpec)

/-- 'joistlaw03.PmemFails', WHERE WHAT IT READS IS OF BULK AT MOST 1048576: true; the input reads as it did. -/
def pmemFailsUptoRow : OpenClaim := { program := "ythakanioekmhbaa", sum := "8af2a3859f2fb6100c7fe13b6cdc608d691511bae98f7d08a8c7bf87d55bd04c", func := "joist/joistlaw03.PmemFails", spec := "pmemFails", unfollowed := true, recurses := true, apart := false, narrowed := true }
def PmemFailsUptoSaid : Prop := pmemFailsUptoRow.holds Try.pinned (OpenSpec.upto pmemFailsSpec)

/-- 'joistlaw03.PmemAsks', WHERE WHAT IT READS IS OF BULK AT MOST 1048576: true; the input reads as it did. -/
def pmemAsksUptoRow : OpenClaim := { program := "ythakanioekmhbaa", sum := "8af2a3859f2fb6100c7fe13b6cdc608d691511bae98f7d08a8c7bf87d55bd04c", func := "joist/joistlaw03.PmemAsks", spec := "pmemAsks", unfollowed := true, recurses := true, apart := false, narrowed := true }
def PmemAsksUptoSaid : Prop := pmemAsksUptoRow.holds Try.pinned (OpenSpec.upto pmemAsksSpec)

/-- 'joistlaw03.PmemPlays', WHERE WHAT IT READS IS OF BULK AT MOST 1048576: true; the input reads as it did. -/
def pmemPlaysUptoRow : OpenClaim := { program := "ythakanioekmhbaa", sum := "8af2a3859f2fb6100c7fe13b6cdc608d691511bae98f7d08a8c7bf87d55bd04c", func := "joist/joistlaw03.PmemPlays", spec := "pmemPlays", unfollowed := true, recurses := true, apart := false, narrowed := true }
def PmemPlaysUptoSaid : Prop := pmemPlaysUptoRow.holds Try.pinned (OpenSpec.upto pmemPlaysSpec)

end Rows
end Go.Proofs.Ythakanioekmhbaa
