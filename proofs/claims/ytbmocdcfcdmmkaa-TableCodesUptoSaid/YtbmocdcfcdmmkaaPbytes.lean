import Derived.Test.YtbmocdcfcdmmkaaI
import Derived.Test.YtbmocdcfcdmmkaaVI
namespace Go.Proofs.Ytbmocdcfcdmmkaa
open Go Go.Proofs.Ytbmocdcfcdmmkaa.V
set_option maxRecDepth 20000
attribute [local irreducible] CallS AOK AOKn ALoop Side Ref.ok
theorem fresh_bs (s : List UInt8) : FreshR (.sl 1 (bs s) true) := FreshA.sl _ _ FreshA_bs
theorem bytes_Equal_val (σ : AH) (a b : Bool) (s t : List UInt8) (Q : AV → AH → Prop) (h1 : s = t → Q (.bool true) σ) (h2 : s ≠ t → Q (.bool false) σ) : CallS Try.prog F.bytes_Equal [.sl 1 (bs s) a, .sl 1 (bs t) b] σ Q := by
  refine call_of_body mixed fc_bytes_Equal_ok (by simp [fc_bytes_Equal]) ?_
  repeat' (first
    | ((conv => whnf) <;> (first
    | (with_reducible refine Br.mk (fun _ => ?_) (fun _ => ?_))
    | (with_reducible refine rowsR_sl ?_)
    | (with_reducible refine bytesR_intro (by first | rfl | (simp only [bs_take, bs_drop, bs_append]; rfl)) ?_)
    ))
    )
  all_goals (conv => whnf)
  all_goals (try dsimp only)
  · exact h1 ‹_›
  · exact h2 ‹_›
end Go.Proofs.Ytbmocdcfcdmmkaa
