import Derived.Test.YtbknmoeneebaoaaI
import Derived.Test.YtbknmoeneebaoaaVI
namespace Go.Proofs.Ytbknmoeneebaoaa
open Go Go.Proofs.Ytbknmoeneebaoaa.V
set_option maxRecDepth 20000
attribute [local irreducible] CallS AOK AOKn ALoop Side Ref.ok
theorem fresh_bs (s : List UInt8) : FreshR (.sl 1 (bs s) true) := FreshA.sl _ _ FreshA_bs
theorem bytes_Clone_ok (s : List UInt8) (hl : s.length ≤ 4611686018427) : AOKn Try.prog F.bytes_Clone [.sl 1 (bs s) false] fun y => y = .sl 1 (bs s) true := by
  have hn := bs_length s
  refine AOKn.by_steps mixed fc_bytes_Clone_ok (by simp [fc_bytes_Clone]) ?_
  repeat' (first
    | ((with_reducible refine Side.intro ?_) <;> (first | with_reducible rfl | omega | assumption | exact Nat.le_of_ble_eq_true rfl | (simp only [bs_length, List.length_append, List.length_cons, List.length_nil, List.length_take, List.length_drop, List.length_set, List.length_replicate]; omega) | exact .inl (by omega) | exact .inr (.inl ⟨rfl, by (simp only [bs_length, List.length_append, List.length_cons, List.length_nil, List.length_take, List.length_drop, List.length_set, List.length_replicate]; omega)⟩) | exact Ref.ok_refl _ _ | (simp only [List.append_nil, List.nil_append, List.map_nil]; first | exact List.nodup_nil | exact nodup_bid1 _ | exact nodup_bid2 (by assumption)) | ((first | refine fresh_tup ?_ | skip); (repeat (first |  exact FreshA.sl _ _ FreshA_bs | exact FreshA.sl _ _ FreshA_is | exact FreshA.nils | exact FreshA.nilp | exact FreshA.int _ _ | exact FreshA.bool _ | exact FreshA.str _ | exact fresh_nil | refine fresh_cons ?_ ?_)); done) | exact rfl | (simp; done)))
    | ((conv => whnf) <;> (first
        | (with_reducible refine and_same ?_)
        | (with_reducible refine and_side ?_ ?_)
        | (with_reducible refine Br.yes rfl ?_)
        | (with_reducible refine Br.yes (by omega) ?_)
        | (with_reducible refine Br.no (by omega) ?_)
        | (with_reducible refine Br.no (by assumption) ?_)
        | (with_reducible refine Br.yes (by assumption) ?_)
        | (with_reducible refine Br.mk (fun _ => ?_) (fun _ => ?_))
        | (with_reducible refine Both.mk ?_ ?_)
        | ((with_reducible apply blkAt_intro) ; (focus (first | exact rfl | (repeat (first | assumption | exact get_new | exact get_set (by assumption) | exact get_set get_new | apply get_old | (apply get_set_ne; (focus (first | omega | (simp only [newB_length, List.length_set, List.length_append, List.length_singleton]; omega)))))); done)) ; (focus (first | rfl | assumption | omega)) ; (try dsimp only))
        | (with_reducible refine nthR_bs1 (by assumption) ?_)
        | (with_reducible refine nthR_is1 (by assumption) ?_)
        | ((with_reducible apply appendR_lit) ; (focus (first | exact rfl | (repeat (first | assumption | exact get_new | exact get_set (by assumption) | exact get_set get_new | apply get_old | (apply get_set_ne; (focus (first | omega | (simp only [newB_length, List.length_set, List.length_append, List.length_singleton]; omega)))))); done)) ; (focus (first | rfl | assumption)) ; (focus rfl) ; (focus rfl) ; (focus rfl) ; (focus (first | exact Nat.zero_le _ | omega | (simp; done) | (simp; omega))) ; (try dsimp only))
        | (with_reducible refine appendR_nil ?_ ?_)
        | (with_reducible refine lenR_own (by assumption) ?_)
        | (with_reducible refine rowsR_own (by assumption) ?_)
        | (with_reducible refine ia_own (by assumption) ?_ ?_ (fun _ _ _ _ _ => ?_))
        | (with_reducible refine ia_sl ?_ ?_)
        | (with_reducible refine IaW.of ?_)
        | (with_reducible refine SliceW.of ?_)
        | (with_reducible refine EqnW.of ?_)
        | (with_reducible refine CopyW.of ?_)
        | (with_reducible refine out_own (by assumption) (fun _ => ?_) (fun _ _ => ?_))
        | (with_reducible refine OutW.of ?_)
        | (with_reducible refine NOut.own (by assumption) ?_)
        | (with_reducible refine NOut.lit ?_)
        | (with_reducible refine nthR_z ?_)
        | (with_reducible refine nthR_left (by first | omega | (simp only [List.length_append, List.length_cons, List.length_nil, List.length_take, List.length_drop, bs_length]; omega)) ?_)
        | (with_reducible refine lenR_sl ?_)
        | (with_reducible refine lenR_nils ?_)
        | (with_reducible refine lenR_rsl ?_)
        | (with_reducible refine rowsR_sl ?_)
        | (with_reducible refine rowsR_nils ?_)
        | (with_reducible refine rowsR_rsl ?_)
        | (with_reducible refine lenR_slx ?_)
        | (with_reducible refine rowsR_slx ?_)
        | (with_reducible refine appendR_slx ?_ ?_ ?_)
        | (with_reducible refine bytesR_intro (by first | rfl | (simp only [bs_take, bs_drop, bs_append]; rfl)) ?_)
        | (with_reducible refine nthR_bs (by first | omega | (simp only [List.length_append, List.length_cons, List.length_nil, List.length_take, List.length_drop, bs_length]; omega)) (fun _ _ _ => ?_))
        | (with_reducible intro _))))
  all_goals (conv => whnf)
  all_goals (try dsimp only)
  · exact ret_same (by simp)
  · simp only [List.take_zero, List.nil_append, Nat.zero_add, List.take_length]; exact Side.intro (fresh_bs s)
  · exact ret_nil ‹_›
  · exact ret_same (by simp)
  · simp only [List.take_zero, List.nil_append, Nat.zero_add, List.take_length]; exact Side.intro (fresh_bs s)
end Go.Proofs.Ytbknmoeneebaoaa
