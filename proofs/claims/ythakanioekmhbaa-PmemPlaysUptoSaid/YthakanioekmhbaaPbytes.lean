import Derived.Test.YthakanioekmhbaaI
import Derived.Test.YthakanioekmhbaaVI
namespace Go.Proofs.Ythakanioekmhbaa
open Go Go.Proofs.Ythakanioekmhbaa.V
set_option maxRecDepth 20000
attribute [local irreducible] CallS AOK AOKn ALoop Side Ref.ok
theorem fresh_bs (s : List UInt8) : FreshR (.sl 1 (bs s) true) := FreshA.sl _ _ FreshA_bs
theorem bytes_Clone_ok (s : List UInt8) (hl : s.length ≤ 4611686018427) : AOKn Try.prog F.bytes_Clone [.sl 1 (bs s) false] fun y => y = .sl 1 (bs s) true := by
  have hn := bs_length s
  refine AOKn.by_steps mixed fc_bytes_Clone_ok (by simp [fc_bytes_Clone]) ?_
  repeat' (first
    | ((with_reducible refine Side.intro ?_) <;> (first
    | omega
    | (simp only [bs_length, List.length_append, List.length_cons, List.length_nil, List.length_take, List.length_drop, List.length_set, List.length_replicate]; omega)
    | (simp only [List.append_nil, List.nil_append, List.map_nil]; first | exact List.nodup_nil | exact nodup_bid1 _ | exact nodup_bid2 (by assumption))
    | ((first | refine fresh_tup ?_ | skip); (repeat (first |  exact FreshA.sl _ _ FreshA_bs | exact FreshA.sl _ _ FreshA_is | exact FreshA.nils | exact FreshA.nilp | exact FreshA.int _ _ | exact FreshA.bool _ | exact FreshA.str _ | exact fresh_nil | refine fresh_cons ?_ ?_ | with_reducible refine fresh_aggR ?_ | with_reducible refine fresh_agg ?_ | with_reducible exact fresh_nilA | with_reducible refine fresh_consA ?_ ?_)); done)
    | (simp; done)
    ))
    | ((conv => whnf) <;> (first
    | (with_reducible refine and_same ?_)
    | (with_reducible refine and_side ?_ ?_)
    | (with_reducible refine Br.mk (fun _ => ?_) (fun _ => ?_))
    | (with_reducible refine Both.mk ?_ ?_)
    | ((with_reducible apply blkAt_step) ; (focus (first
    | exact rfl
    )) ; (focus (first | rfl | assumption | omega)) ; (focus (first | rfl | assumption)) ; (try dsimp only))
    | ((with_reducible apply appendR_lit) ; (focus (first
    | exact rfl
    )) ; (focus (first | rfl | assumption)) ; (focus (first | rfl | assumption)) ; (focus rfl) ; (focus rfl) ; (focus rfl) ; (focus (first | exact Nat.zero_le _ | omega | (simp; done) | (simp; omega))) ; (try dsimp only))
    | (with_reducible refine AppC.frz ?_)
    | (with_reducible refine EqnW.of ?_)
    | (with_reducible refine NOut.lit ?_)
    | (with_reducible refine rowsR_sl ?_)
    ))
    )
  all_goals (conv => whnf)
  all_goals (try dsimp only)
  · exact ret_same (by simp)
  · simp only [List.take_zero, List.nil_append, Nat.zero_add, List.take_length]; exact Side.intro (fresh_bs s)
  · exact ret_nil ‹_›
  · exact ret_same (by simp)
  · simp only [List.take_zero, List.nil_append, Nat.zero_add, List.take_length]; exact Side.intro (fresh_bs s)
end Go.Proofs.Ythakanioekmhbaa
