import Derived.Test.YtjjmcpnbaahkgaaPreads16
namespace Go.Proofs.Ytjjmcpnbaahkgaa
open Go Go.Proofs.Ytjjmcpnbaahkgaa.V
theorem readsStr {B : BulkF} (hB : Bulky B) : ReadsA Try.prog B 9 (fun s : List UInt8 => .str s) (fun s => s.length + 1) (fun _ => True) := ReadsA.str (by kernel_rfl) (Reads.str hB (by kernel_rfl))
end Go.Proofs.Ytjjmcpnbaahkgaa
