/-
  No cell of these rows narrows 'for every input' (looked for: loops, veiled, ifaces, maps, wideKeys, modest, calm, conditions, laid).
  DERIVED. THE GIVEN ROWS OF THIS SEAT. 3 by the template 'for every input the law returns true; each argument reads behind the call as it read before'; 0 by the template 'total and deterministic' (their statements: YtjjmcpnbaahkgaaTotals.lean).
  GIVEN WITH THE SEED: the statements are not yours to turn. If you find one false, say at which input.
  Laid BY PROGRAM, IN A SANDBOX (cutbox-rows.mjs): the forced cells as the released guide's own fill.sh prints them over the translation 0b503c1b843ba348… (all of the seat's roots in one cut). By AI agents, Wed Nov 11 2026. No macro, syntax, notation, axiom, sorry.
-/
import Derived.Test.YtjjmcpnbaahkgaaChecked
import GoSem.Claim
import GoSem.ClaimJoined
import GoSem.ClaimMapViews
import Derived.JoinedTies
import Derived.KernelRfl
namespace Go.Proofs.Ytjjmcpnbaahkgaa
/- THE CELL 'sum', in the pinned program and in every row, IS THE sha256 OF THE DUMP (.gsa) THAT YtjjmcpnbaahkgaaProg.lean LOADS. Nothing in Lean hashes anything: it is a label: what it is worth is what the hold of that sum in a sandbox is worth. -/
noncomputable def Try.pinned : Pinned := { name := "ytjjmcpnbaahkgaa", sum := "0b503c1b843ba34812f539b2f502dd24a6997dcb87e5b91faf94027a26eb8cca", checked := Try.checked }
namespace Rows
def none {H : Type} : Left H := { results := [], args := [] }

/-- 'joistlaw17.SuperCodes': WHATEVER THE INPUT: true; the input reads as it did. -/
def superCodesSpec : ChangeSpec := { name := "superCodes", fn := fun _ => fun
  | [d1, d2, d3, d4, d5] => { results := [.lit (.bool true)], args := [d1, d2, d3, d4, d5] }
  | _ => none }
def superCodesRow : OpenClaim := { program := "ytjjmcpnbaahkgaa", sum := "0b503c1b843ba34812f539b2f502dd24a6997dcb87e5b91faf94027a26eb8cca", func := "joist/joistlaw17.SuperCodes", spec := "superCodes", unfollowed := true, recurses := true, apart := false }
def SuperCodesSaid : Prop := superCodesRow.holds Try.pinned (OpenSpec.ofChange superCodesSpec)

/-- ITS FALSE NEIGHBOUR: 'it returns false'. Refute it at one input. -/
def superCodesWrong : ChangeSpec := { name := "superCodes", fn := fun _ => fun
  | [d1, d2, d3, d4, d5] => { results := [.lit (.bool false)], args := [d1, d2, d3, d4, d5] }
  | _ => none }
def SuperCodesWrongFalsely : Prop := superCodesRow.holds Try.pinned (OpenSpec.ofChange superCodesWrong)

/-- 'joistlaw17.SuperBack': WHATEVER THE INPUT: true; the input reads as it did. -/
def superBackSpec : ChangeSpec := { name := "superBack", fn := fun _ => fun
  | [d1, d2, d3, d4, d5] => { results := [.lit (.bool true)], args := [d1, d2, d3, d4, d5] }
  | _ => none }
def superBackRow : OpenClaim := { program := "ytjjmcpnbaahkgaa", sum := "0b503c1b843ba34812f539b2f502dd24a6997dcb87e5b91faf94027a26eb8cca", func := "joist/joistlaw17.SuperBack", spec := "superBack", unfollowed := true, recurses := true, apart := false }
def SuperBackSaid : Prop := superBackRow.holds Try.pinned (OpenSpec.ofChange superBackSpec)

/-- ITS FALSE NEIGHBOUR: 'it returns false'. Refute it at one input. -/
def superBackWrong : ChangeSpec := { name := "superBack", fn := fun _ => fun
  | [d1, d2, d3, d4, d5] => { results := [.lit (.bool false)], args := [d1, d2, d3, d4, d5] }
  | _ => none }
def SuperBackWrongFalsely : Prop := superBackRow.holds Try.pinned (OpenSpec.ofChange superBackWrong)

/-- 'joistlaw17.SuperModes': WHATEVER THE INPUT: true; the input reads as it did. -/
def superModesSpec : ChangeSpec := { name := "superModes", fn := fun _ => fun
  | [d1, d2, d3] => { results := [.lit (.bool true)], args := [d1, d2, d3] }
  | _ => none }
def superModesRow : OpenClaim := { program := "ytjjmcpnbaahkgaa", sum := "0b503c1b843ba34812f539b2f502dd24a6997dcb87e5b91faf94027a26eb8cca", func := "joist/joistlaw17.SuperModes", spec := "superModes", unfollowed := true, recurses := true, apart := false }
def SuperModesSaid : Prop := superModesRow.holds Try.pinned (OpenSpec.ofChange superModesSpec)

/-- ITS FALSE NEIGHBOUR: 'it returns false'. Refute it at one input. -/
def superModesWrong : ChangeSpec := { name := "superModes", fn := fun _ => fun
  | [d1, d2, d3] => { results := [.lit (.bool false)], args := [d1, d2, d3] }
  | _ => none }
def SuperModesWrongFalsely : Prop := superModesRow.holds Try.pinned (OpenSpec.ofChange superModesWrong)

/- THE SECOND FORM. 'bulk': how many values and letters a reading holds, each counted each time it is reached (what is shared counts as often as it is met; a slice's spare places count too). A statement '..UptoSaid' is the law's where the arguments, and the package variables that the reading takes, are together of bulk at most 1048576: NARROWER than '..Said'. Prove '..Said' where nothing that the law and all that it calls make is longer than what came in: it says more and counts as full. Else prove '..UptoSaid'. A law counts once. -/
mutual
def uptoBulk {H : Type} : DataW H → Nat
  | .lit (.string bytes) => bytes.length + 1
  | .lit _ => 1
  | .nil => 1
  | .ptr d => uptoBulk d + 1
  | .slice elems spare => uptoBulkAll elems + uptoBulkAll spare + 1
  | .agg parts => uptoBulkAll parts + 1
  | .iface _ d => uptoBulk d + 1
  | .map entries => uptoBulkEntries entries + 1
  | .held _ => 1
def uptoBulkAll {H : Type} : List (DataW H) → Nat
  | [] => 0
  | d :: r => uptoBulk d + uptoBulkAll r
def uptoBulkEntries {H : Type} : List (Lit × DataW H) → Nat
  | [] => 0
  | x :: r => uptoBulkEntry x + uptoBulkEntries r
def uptoBulkEntry {H : Type} : Lit × DataW H → Nat
  | (.string bytes, d) => bytes.length + uptoBulk d + 1
  | (_, d) => uptoBulk d + 1
 end
def uptoSmall : (H : Type) → List (DataW H) → Bool := fun _ ds => decide (uptoBulkAll ds ≤ 1048576)
def OpenSpec.upto (s : _root_.Go.ChangeSpec) : _root_.Go.OpenSpec := { _root_.Go.OpenSpec.ofChange s with cond := some uptoSmall }

/-- 'joistlaw17.SuperCodes', WHERE WHAT IT READS IS OF BULK AT MOST 1048576: true; the input reads as it did. -/
def superCodesUptoRow : OpenClaim := { program := "ytjjmcpnbaahkgaa", sum := "0b503c1b843ba34812f539b2f502dd24a6997dcb87e5b91faf94027a26eb8cca", func := "joist/joistlaw17.SuperCodes", spec := "superCodes", unfollowed := true, recurses := true, apart := false, narrowed := true }
def SuperCodesUptoSaid : Prop := superCodesUptoRow.holds Try.pinned (OpenSpec.upto superCodesSpec)

/-- 'joistlaw17.SuperBack', WHERE WHAT IT READS IS OF BULK AT MOST 1048576: true; the input reads as it did. -/
def superBackUptoRow : OpenClaim := { program := "ytjjmcpnbaahkgaa", sum := "0b503c1b843ba34812f539b2f502dd24a6997dcb87e5b91faf94027a26eb8cca", func := "joist/joistlaw17.SuperBack", spec := "superBack", unfollowed := true, recurses := true, apart := false, narrowed := true }
def SuperBackUptoSaid : Prop := superBackUptoRow.holds Try.pinned (OpenSpec.upto superBackSpec)

/-- 'joistlaw17.SuperModes', WHERE WHAT IT READS IS OF BULK AT MOST 1048576: true; the input reads as it did. -/
def superModesUptoRow : OpenClaim := { program := "ytjjmcpnbaahkgaa", sum := "0b503c1b843ba34812f539b2f502dd24a6997dcb87e5b91faf94027a26eb8cca", func := "joist/joistlaw17.SuperModes", spec := "superModes", unfollowed := true, recurses := true, apart := false, narrowed := true }
def SuperModesUptoSaid : Prop := superModesUptoRow.holds Try.pinned (OpenSpec.upto superModesSpec)

end Rows
end Go.Proofs.Ytjjmcpnbaahkgaa
