import Derived.Test.YtlhogahibillpaaPlaw04
import Derived.Test.YtlhogahibillpaaVJ
namespace Go.Proofs.Ytlhogahibillpaa
open Go Go.Proofs.Ytlhogahibillpaa.V
theorem readsChange {B : BulkF} (hB : Bulky B) : Reads Try.prog B 40 (fun p : Int × List UInt8 => [.int .i64 p.1, .sl 1 (bs p.2) false]) (fun _ => 1) (fun _ => True) := by
  have h := Reads.struct2 (n1 := 1) (n2 := 1) hB Try.underlying40 (by kernel_rfl) (.i64 hB (by kernel_rfl)) (.bytes (e := 5) hB (by kernel_rfl) (by kernel_rfl) (by kernel_rfl)) rfl (by kernel_rfl) rfl (by kernel_rfl)
  exact h.iso (fun p => (p.1, p.2.1)) (fun _ => rfl) (fun p _ => by omega) (fun _ _ => trivial)
theorem readsChanges {B : BulkF} (hB : Bulky B) : ReadsA Try.prog B 25 (fun L : List (Int × List UInt8) => .sl 2 (chg false L) false) (fun L => L.length) (fun _ => True) := by
  refine .slice Try.underlying25 ?_
  refine Reads.iso (Reads.slice hB (sz := 2) Try.underlying25 (by kernel_rfl) (readsChange hB) (fun _ => rfl)) id (fun _ => rfl) (fun l _ => ?_) (fun _ _ => trivial)
  rw [sum_ones]
  exact Nat.le_succ _
end Go.Proofs.Ytlhogahibillpaa
