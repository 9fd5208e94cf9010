import Derived.Test.YtjbfdhnfdehdeaaPcalls
import Derived.Test.YtjbfdhnfdehdeaaPref01
namespace Go.Proofs.Ytjbfdhnfdehdeaa
open Go Go.Proofs.Ytjbfdhnfdehdeaa.V
set_option maxRecDepth 20000
attribute [local irreducible] CallS AOK AOKn ALoop Side Ref.ok
theorem untagLL_is (l : List Int) : untagLL (is l) = is l := by
  induction l with
  | nil => rfl
  | cons b s ih =>
    have : is (b :: s) = [.int .i64 b] :: is s := rfl
    rw [this, untagLL, ih]; rfl
theorem Looks.ownis {σ : AH} {x : AV} {s : List Int} (h : Own σ 1 x (is s)) : Looks σ x (.sl 1 (is s) false) := by
  have := Looks.own h
  rwa [untagLL_is] at this
theorem Of_call (l : List Int) (hs : l.length ≤ 461168601842) {σ : AH} {x : AV} (hx : Looks σ x (.sl 1 (is l) false)) {Q : AV → AH → Prop} (h : ∀ σ' y, Gr σ σ' none → Own σ' 1 y (bs (ofR l)) → New σ y → Q (.tup [y, .int .i64 (ofE l)]) σ') : CallS Try.prog F.words_Of [x] σ Q :=
  call_sl1 (words_Of_ok l hs) (.cons hx .nil) rfl h
theorem Same_call (a b : List Int) (ha : a.length ≤ 4611686018427) (hb : b.length ≤ 4611686018427) {σ : AH} {x y : AV} (hx : Looks σ x (.sl 1 (is a) false)) (hy : Looks σ y (.sl 1 (is b) false)) {Q : AV → AH → Prop} (h : ∀ σ', Gr σ σ' none → Q (.bool (decide (a = b))) σ') : CallS Try.prog F.joistref01_Same [x, y] σ Q :=
  call_one (Same_ok a b ha hb) (.cons hx (.cons hy .nil)) rfl h
end Go.Proofs.Ytjbfdhnfdehdeaa
