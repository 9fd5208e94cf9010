import Derived.Test.YtjjmcpnbaahkgaaPshape2
import Derived.Test.YtjjmcpnbaahkgaaVJ
namespace Go.Proofs.Ytjjmcpnbaahkgaa
open Go Go.Proofs.Ytjjmcpnbaahkgaa.V
theorem readsShape {B : BulkF} (hB : Bulky B) : ReadsA Try.prog B 23 (fun x : Int × Int × Int × Int => shp x.1 x.2.1 x.2.2.1 x.2.2.2) (fun _ => 1) (fun x => inI x.1 ∧ inI x.2.1 ∧ inI x.2.2.1 ∧ inI x.2.2.2) := by
  have h := Reads.struct4 (n1 := 1) (n2 := 1) (n3 := 1) (n4 := 1) hB Try.underlying23 (by kernel_rfl) (.i64 hB (by kernel_rfl)) (.i64 hB (by kernel_rfl)) (.i64 hB (by kernel_rfl)) (.i64 hB (by kernel_rfl)) rfl (by kernel_rfl) rfl (by kernel_rfl) rfl (by kernel_rfl) rfl (by kernel_rfl)
  have h2 := Reads.iso h (fun x => (x.1, x.2.1, x.2.2.1, x.2.2.2.1)) (enc' := fun x : Int × Int × Int × Int => [.int .i64 x.1, .int .i64 x.2.1, .int .i64 x.2.2.1, .int .i64 x.2.2.2]) (μ' := fun _ => 1) (ok' := fun x => inI x.1 ∧ inI x.2.1 ∧ inI x.2.2.1 ∧ inI x.2.2.2) (fun _ => rfl) (fun _ _ => by omega) (fun _ ho => ⟨ho.1, ho.2.1, ho.2.2.1, ho.2.2.2.1⟩)
  exact ReadsA.struct Try.underlying23 h2
end Go.Proofs.Ytjjmcpnbaahkgaa
