import Derived.Test.YtjjmcpnbaahkgaaPcalls
import Derived.Test.YtjjmcpnbaahkgaaPref01
import Derived.Test.YtjjmcpnbaahkgaaPcrc2
namespace Go.Proofs.Ytjjmcpnbaahkgaa
open Go Go.Proofs.Ytjjmcpnbaahkgaa.V
set_option maxRecDepth 20000
attribute [local irreducible] CallS AOK AOKn ALoop Side Ref.ok
theorem Of_call (l : List Int) (hs : l.length ≤ 461168601842) {σ : AH} {x : AV} (hx : Looks σ x (.sl 1 (is l) false)) {Q : AV → AH → Prop} (h : ∀ σ' y, Gr σ σ' none → Own σ' 1 y (bs (ofR l)) → New σ y → Q (.tup [y, .int .i64 (ofE l)]) σ') : CallS Try.prog F.words_Of [x] σ Q :=
  call_sl1 (words_Of_ok l hs) (.cons hx .nil) rfl h
theorem ROf_call (l : List Int) (hs : l.length ≤ 461168601842) {σ : AH} {x : AV} (hx : Looks σ x (.sl 1 (is l) false)) {Q : AV → AH → Prop} (h : ∀ σ' y, Gr σ σ' none → Own σ' 1 y (bs (ofR l)) → New σ y → Q (.tup [y, .int .i64 (ofE l)]) σ') : CallS Try.prog F.joistref01_Of [x] σ Q :=
  call_sl1 (ref_Of_ok l hs) (.cons hx .nil) rfl h
theorem All_call (s : List UInt8) (hs : s.length ≤ 4611686018427) {σ : AH} {x : AV} (hx : Looks σ x (.sl 1 (bs s) false)) {Q : AV → AH → Prop} (h : ∀ σ' y, Gr σ σ' none → Own σ' 1 y (is (allR s)) → New σ y → Q (.tup [y, .bool (allOk s)]) σ') : CallS Try.prog F.words_All [x] σ Q :=
  call_sl1 (words_All_ok s hs) (.cons hx .nil) rfl h
theorem RAll_call (s : List UInt8) (hs : s.length ≤ 4611686018427) {σ : AH} {x : AV} (hx : Looks σ x (.sl 1 (bs s) false)) {Q : AV → AH → Prop} (h : ∀ σ' y, Gr σ σ' none → Own σ' 1 y (is (allR s)) → New σ y → Q (.tup [y, .bool (allOk s)]) σ') : CallS Try.prog F.joistref01_All [x] σ Q :=
  call_sl1 (ref_All_ok s hs) (.cons hx .nil) rfl h
end Go.Proofs.Ytjjmcpnbaahkgaa
