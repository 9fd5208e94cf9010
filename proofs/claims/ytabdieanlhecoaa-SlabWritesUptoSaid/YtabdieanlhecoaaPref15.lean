import Derived.Test.YtabdieanlhecoaaPslab2
import Derived.Test.YtabdieanlhecoaaPwcalls
namespace Go.Proofs.Ytabdieanlhecoaa
open Go Go.Proofs.Ytabdieanlhecoaa.V
set_option maxRecDepth 20000
attribute [local irreducible] CallS AOK AOKn ALoop Side Ref.ok
def szL : List Int := [2, 3, 5, 7, 10, 15]
theorem sizes_ok : AOKn Try.prog F.joistref12_sizes [] fun y => y = .sl 1 (is szL) true := by
  refine AOKn.by_steps mixed fc_joistref12_sizes_ok (by simp [fc_joistref12_sizes]) ?_
  repeat' (first
    | ((with_reducible apply Gr.side) ; with_reducible assumption)
    | ((with_reducible apply Gr.side) ; (repeat (first | exact Gr.refl _ _ | assumption | with_reducible refine Gr.trans ?_ (Gr.boxN _ _ _ _ _) | refine Gr.setNew ?_ (by first | exact Nat.le_refl _ | (simp only [newB_length, List.length_set, List.length_append, List.length_singleton]; omega) | omega) _ | refine Gr.addN ?_ _ | refine Gr.newN ?_ _ _ _ | exact Gr.trans (by assumption) (by assumption) | refine Gr.trans ?_ (by assumption) | refine Gr.trans (by assumption) ?_)) ; (first | done | fail))
    | ((with_reducible refine Side.intro ?_) <;> (first
    | with_reducible rfl
    | omega
    | assumption
    | exact Nat.le_of_ble_eq_true rfl
    | (simp only [bs_length, List.length_append, List.length_cons, List.length_nil, List.length_take, List.length_drop, List.length_set, List.length_replicate]; omega)
    | exact .inl (by omega)
    | exact .inr (.inl ⟨rfl, by (simp only [bs_length, List.length_append, List.length_cons, List.length_nil, List.length_take, List.length_drop, List.length_set, List.length_replicate]; omega)⟩)
    | exact Ref.ok_refl _ _
    | (simp only [List.append_nil, List.nil_append, List.map_nil]; first | exact List.nodup_nil | exact nodup_bid1 _ | exact nodup_bid2 (by assumption))
    | ((first | refine fresh_tup ?_ | skip); (repeat (first |  exact FreshA.sl _ _ FreshA_bs | exact FreshA.sl _ _ FreshA_is | exact FreshA.nils | exact FreshA.nilp | exact FreshA.int _ _ | exact FreshA.bool _ | exact FreshA.str _ | exact fresh_nil | refine fresh_cons ?_ ?_ | with_reducible refine fresh_aggR ?_ | with_reducible refine fresh_agg ?_ | with_reducible exact fresh_nilA | with_reducible refine fresh_consA ?_ ?_)); done)
    | exact rfl
    | (simp; done)
    ))
    | ((conv => whnf) <;> (first
    | (with_reducible refine and_same ?_)
    | (with_reducible refine and_side ?_ ?_)
    | (with_reducible refine Br.yes rfl ?_)
    | ((with_reducible apply Br.yes) ; (focus omega))
    | ((with_reducible apply Br.no) ; (focus omega))
    | ((with_reducible apply Br.no) ; (focus assumption))
    | ((with_reducible apply Br.yes) ; (focus assumption))
    | ((with_reducible apply Br.yes) ; (focus ((with_reducible refine And.intro ?_ ?_) ; (repeat' (first | with_reducible rfl | exact True.intro | with_reducible refine And.intro ?_ ?_ | omega | assumption)) ; (first | done | fail))))
    | (with_reducible refine Br.mk (fun _ => ?_) (fun _ => ?_))
    | (with_reducible refine Both.mk ?_ ?_)
    | ((with_reducible apply blkAt_intro) ; (focus (first
    | exact rfl
    | ((repeat (first
    | assumption
    | exact get_new
    | exact get_set (by assumption)
    | exact get_set get_new
    | with_reducible apply get_set
    | apply get_set
    | apply get_old
    | (apply get_set_ne; (focus (first | omega | (simp only [newB_length, List.length_set, List.length_append, List.length_singleton, List.length_nil]; omega))))
    )); done)
    )) ; (focus (first | rfl | assumption | omega)) ; (try dsimp only))
    | ((with_reducible apply nthR_dat) ; (focus assumption))
    | ((with_reducible apply nthR_bs1) ; (focus assumption))
    | ((with_reducible apply nthR_is1) ; (focus assumption))
    | ((with_reducible apply appendR_lit) ; (focus (first
    | exact rfl
    | ((repeat (first
    | assumption
    | exact get_new
    | exact get_set (by assumption)
    | exact get_set get_new
    | with_reducible apply get_set
    | apply get_set
    | apply get_old
    | (apply get_set_ne; (focus (first | omega | (simp only [newB_length, List.length_set, List.length_append, List.length_singleton, List.length_nil]; omega))))
    )); done)
    )) ; (focus (first | rfl | assumption)) ; (focus rfl) ; (focus rfl) ; (focus rfl) ; (focus (first | exact Nat.zero_le _ | omega | (simp; done) | (simp; omega))) ; (try dsimp only))
    | (with_reducible refine appendR_nil ?_ ?_)
    | ((with_reducible apply lenR_own) ; (focus assumption))
    | ((with_reducible apply lenR_own) ; (focus (apply Own.upTo ; (focus assumption) ; (repeat (first | exact Gr.refl _ _ | assumption | with_reducible refine Gr.trans ?_ (Gr.boxN _ _ _ _ _) | refine Gr.setNew ?_ (by first | exact Nat.le_refl _ | (simp only [newB_length, List.length_set, List.length_append, List.length_singleton]; omega) | omega) _ | refine Gr.addN ?_ _ | refine Gr.newN ?_ _ _ _ | exact Gr.trans (by assumption) (by assumption) | refine Gr.trans ?_ (by assumption) | refine Gr.trans (by assumption) ?_)) ; (first | done | fail))))
    | ((with_reducible apply rowsR_own) ; (focus assumption))
    | ((with_reducible apply rowsR_own) ; (focus (apply Own.upTo ; (focus assumption) ; (repeat (first | exact Gr.refl _ _ | assumption | with_reducible refine Gr.trans ?_ (Gr.boxN _ _ _ _ _) | refine Gr.setNew ?_ (by first | exact Nat.le_refl _ | (simp only [newB_length, List.length_set, List.length_append, List.length_singleton]; omega) | omega) _ | refine Gr.addN ?_ _ | refine Gr.newN ?_ _ _ _ | exact Gr.trans (by assumption) (by assumption) | refine Gr.trans ?_ (by assumption) | refine Gr.trans (by assumption) ?_)) ; (first | done | fail))))
    | ((with_reducible apply ia_own) ; (focus assumption))
    | ((with_reducible apply ia_own) ; (focus (apply Own.upTo ; (focus assumption) ; (repeat (first | exact Gr.refl _ _ | assumption | with_reducible refine Gr.trans ?_ (Gr.boxN _ _ _ _ _) | refine Gr.setNew ?_ (by first | exact Nat.le_refl _ | (simp only [newB_length, List.length_set, List.length_append, List.length_singleton]; omega) | omega) _ | refine Gr.addN ?_ _ | refine Gr.newN ?_ _ _ _ | exact Gr.trans (by assumption) (by assumption) | refine Gr.trans ?_ (by assumption) | refine Gr.trans (by assumption) ?_)) ; (first | done | fail))))
    | (with_reducible refine ia_sl ?_ ?_)
    | (with_reducible refine IaW.of ?_)
    | (with_reducible refine SliceW.of ?_)
    | ((with_reducible apply AppC.raw) ; (focus assumption))
    | (with_reducible refine AppC.frz ?_)
    | (with_reducible refine EqnW.of ?_)
    | (with_reducible refine CopyW.of ?_)
    | ((with_reducible apply out_own) ; (focus assumption))
    | (with_reducible refine OutW.of ?_)
    | ((with_reducible apply NOut.own) ; (focus assumption))
    | (with_reducible refine NOut.lit ?_)
    | (with_reducible refine nthR_z ?_)
    | ((with_reducible apply nthR_left) ; (focus (first | omega | (simp only [List.length_append, List.length_cons, List.length_nil, List.length_take, List.length_drop, bs_length]; omega))))
    | (with_reducible refine lenR_sl ?_)
    | (with_reducible refine lenR_nils ?_)
    | (with_reducible refine lenR_rsl ?_)
    | (with_reducible refine rowsR_sl ?_)
    | (with_reducible refine rowsR_nils ?_)
    | (with_reducible refine rowsR_rsl ?_)
    | (with_reducible refine lenR_slx ?_)
    | (with_reducible refine rowsR_slx ?_)
    | (with_reducible refine appendR_slx ?_ ?_ ?_)
    | ((with_reducible apply bytesR_intro) ; (focus (first | rfl | (simp only [bs_take, bs_drop, bs_append]; rfl))))
    | ((with_reducible apply nthR_bs) ; (focus (first | omega | (simp only [List.length_append, List.length_cons, List.length_nil, List.length_take, List.length_drop, bs_length]; omega))))
    | (with_reducible intro _)
    ))
    )
  all_goals (conv => whnf)
  all_goals (try dsimp only)
  all_goals first
    | exact ret_same rfl
    | exact Side.intro (show FreshR (.sl 1 (is szL) true) from FreshA.sl _ _ FreshA_is)
theorem RWords_ok (c : Int) : AOKn Try.prog F.joistref12_Words [.int .i64 c] fun y => y = .tup [.int .i64 (cw c), .int .i64 (clE c)] := by
  refine AOKn.by_steps mixed fc_joistref12_Words_ok (by simp [fc_joistref12_Words]) ?_
  repeat' (first
    | ((with_reducible apply Gr.side) ; with_reducible assumption)
    | ((with_reducible apply Gr.side) ; (repeat (first | exact Gr.refl _ _ | assumption | with_reducible refine Gr.trans ?_ (Gr.boxN _ _ _ _ _) | refine Gr.setNew ?_ (by first | exact Nat.le_refl _ | (simp only [newB_length, List.length_set, List.length_append, List.length_singleton]; omega) | omega) _ | refine Gr.addN ?_ _ | refine Gr.newN ?_ _ _ _ | exact Gr.trans (by assumption) (by assumption) | refine Gr.trans ?_ (by assumption) | refine Gr.trans (by assumption) ?_)) ; (first | done | fail))
    | ((with_reducible refine Side.intro ?_) <;> (first
    | with_reducible rfl
    | omega
    | assumption
    | exact Nat.le_of_ble_eq_true rfl
    | (simp only [bs_length, List.length_append, List.length_cons, List.length_nil, List.length_take, List.length_drop, List.length_set, List.length_replicate]; omega)
    | exact .inl (by omega)
    | exact .inr (.inl ⟨rfl, by (simp only [bs_length, List.length_append, List.length_cons, List.length_nil, List.length_take, List.length_drop, List.length_set, List.length_replicate]; omega)⟩)
    | exact Ref.ok_refl _ _
    | (simp only [List.append_nil, List.nil_append, List.map_nil]; first | exact List.nodup_nil | exact nodup_bid1 _ | exact nodup_bid2 (by assumption))
    | ((first | refine fresh_tup ?_ | skip); (repeat (first |  exact FreshA.sl _ _ FreshA_bs | exact FreshA.sl _ _ FreshA_is | exact FreshA.nils | exact FreshA.nilp | exact FreshA.int _ _ | exact FreshA.bool _ | exact FreshA.str _ | exact fresh_nil | refine fresh_cons ?_ ?_ | with_reducible refine fresh_aggR ?_ | with_reducible refine fresh_agg ?_ | with_reducible exact fresh_nilA | with_reducible refine fresh_consA ?_ ?_)); done)
    | exact rfl
    | (simp; done)
    ))
    | ((conv => whnf) <;> (first
    | (with_reducible refine and_same ?_)
    | (with_reducible refine and_side ?_ ?_)
    | (with_reducible refine Br.yes rfl ?_)
    | ((with_reducible apply Br.yes) ; (focus omega))
    | ((with_reducible apply Br.no) ; (focus omega))
    | ((with_reducible apply Br.no) ; (focus assumption))
    | ((with_reducible apply Br.yes) ; (focus assumption))
    | ((with_reducible apply Br.yes) ; (focus ((with_reducible refine And.intro ?_ ?_) ; (repeat' (first | with_reducible rfl | exact True.intro | with_reducible refine And.intro ?_ ?_ | omega | assumption)) ; (first | done | fail))))
    | (with_reducible refine Br.mk (fun _ => ?_) (fun _ => ?_))
    | (with_reducible refine Both.mk ?_ ?_)
    | ((with_reducible apply blkAt_intro) ; (focus (first
    | exact rfl
    | ((repeat (first
    | assumption
    | exact get_new
    | exact get_set (by assumption)
    | exact get_set get_new
    | with_reducible apply get_set
    | apply get_set
    | apply get_old
    | (apply get_set_ne; (focus (first | omega | (simp only [newB_length, List.length_set, List.length_append, List.length_singleton, List.length_nil]; omega))))
    )); done)
    )) ; (focus (first | rfl | assumption | omega)) ; (try dsimp only))
    | ((with_reducible apply nthR_dat) ; (focus assumption))
    | ((with_reducible apply nthR_bs1) ; (focus assumption))
    | ((with_reducible apply nthR_is1) ; (focus assumption))
    | ((with_reducible apply appendR_lit) ; (focus (first
    | exact rfl
    | ((repeat (first
    | assumption
    | exact get_new
    | exact get_set (by assumption)
    | exact get_set get_new
    | with_reducible apply get_set
    | apply get_set
    | apply get_old
    | (apply get_set_ne; (focus (first | omega | (simp only [newB_length, List.length_set, List.length_append, List.length_singleton, List.length_nil]; omega))))
    )); done)
    )) ; (focus (first | rfl | assumption)) ; (focus rfl) ; (focus rfl) ; (focus rfl) ; (focus (first | exact Nat.zero_le _ | omega | (simp; done) | (simp; omega))) ; (try dsimp only))
    | (with_reducible refine appendR_nil ?_ ?_)
    | ((with_reducible apply lenR_own) ; (focus assumption))
    | ((with_reducible apply lenR_own) ; (focus (apply Own.upTo ; (focus assumption) ; (repeat (first | exact Gr.refl _ _ | assumption | with_reducible refine Gr.trans ?_ (Gr.boxN _ _ _ _ _) | refine Gr.setNew ?_ (by first | exact Nat.le_refl _ | (simp only [newB_length, List.length_set, List.length_append, List.length_singleton]; omega) | omega) _ | refine Gr.addN ?_ _ | refine Gr.newN ?_ _ _ _ | exact Gr.trans (by assumption) (by assumption) | refine Gr.trans ?_ (by assumption) | refine Gr.trans (by assumption) ?_)) ; (first | done | fail))))
    | ((with_reducible apply rowsR_own) ; (focus assumption))
    | ((with_reducible apply rowsR_own) ; (focus (apply Own.upTo ; (focus assumption) ; (repeat (first | exact Gr.refl _ _ | assumption | with_reducible refine Gr.trans ?_ (Gr.boxN _ _ _ _ _) | refine Gr.setNew ?_ (by first | exact Nat.le_refl _ | (simp only [newB_length, List.length_set, List.length_append, List.length_singleton]; omega) | omega) _ | refine Gr.addN ?_ _ | refine Gr.newN ?_ _ _ _ | exact Gr.trans (by assumption) (by assumption) | refine Gr.trans ?_ (by assumption) | refine Gr.trans (by assumption) ?_)) ; (first | done | fail))))
    | ((with_reducible apply ia_own) ; (focus assumption))
    | ((with_reducible apply ia_own) ; (focus (apply Own.upTo ; (focus assumption) ; (repeat (first | exact Gr.refl _ _ | assumption | with_reducible refine Gr.trans ?_ (Gr.boxN _ _ _ _ _) | refine Gr.setNew ?_ (by first | exact Nat.le_refl _ | (simp only [newB_length, List.length_set, List.length_append, List.length_singleton]; omega) | omega) _ | refine Gr.addN ?_ _ | refine Gr.newN ?_ _ _ _ | exact Gr.trans (by assumption) (by assumption) | refine Gr.trans ?_ (by assumption) | refine Gr.trans (by assumption) ?_)) ; (first | done | fail))))
    | (with_reducible refine ia_sl ?_ ?_)
    | (with_reducible refine IaW.of ?_)
    | (with_reducible refine SliceW.of ?_)
    | ((with_reducible apply AppC.raw) ; (focus assumption))
    | (with_reducible refine AppC.frz ?_)
    | (with_reducible refine EqnW.of ?_)
    | (with_reducible refine CopyW.of ?_)
    | ((with_reducible apply out_own) ; (focus assumption))
    | (with_reducible refine OutW.of ?_)
    | ((with_reducible apply NOut.own) ; (focus assumption))
    | (with_reducible refine NOut.lit ?_)
    | (with_reducible refine nthR_z ?_)
    | ((with_reducible apply nthR_left) ; (focus (first | omega | (simp only [List.length_append, List.length_cons, List.length_nil, List.length_take, List.length_drop, bs_length]; omega))))
    | (with_reducible refine lenR_sl ?_)
    | (with_reducible refine lenR_nils ?_)
    | (with_reducible refine lenR_rsl ?_)
    | (with_reducible refine rowsR_sl ?_)
    | (with_reducible refine rowsR_nils ?_)
    | (with_reducible refine rowsR_rsl ?_)
    | (with_reducible refine lenR_slx ?_)
    | (with_reducible refine rowsR_slx ?_)
    | (with_reducible refine appendR_slx ?_ ?_ ?_)
    | ((with_reducible apply bytesR_intro) ; (focus (first | rfl | (simp only [bs_take, bs_drop, bs_append]; rfl))))
    | ((with_reducible apply nthR_bs) ; (focus (first | omega | (simp only [List.length_append, List.length_cons, List.length_nil, List.length_take, List.length_drop, bs_length]; omega))))
    | (with_reducible intro _)
    ))
    )
  all_goals (conv => whnf)
  all_goals (try dsimp only)
  refine call_sl sizes_ok .nil fun H1 x hg1 hx hxn => ?_
  have hl : (is szL).length = 6 := rfl
  cases ho : clOk c
  · have h1 := cl_no ho
    rw [h1.1, show clE c = 1 from by rw [clE, ho]; rfl]
    simp only [clOk, decide_eq_false_iff_not] at ho
    generalize szL = L at *
    repeat' (first
      | ((with_reducible apply Gr.side) ; with_reducible assumption)
      | ((with_reducible apply Gr.side) ; (repeat (first | exact Gr.refl _ _ | assumption | with_reducible refine Gr.trans ?_ (Gr.boxN _ _ _ _ _) | refine Gr.setNew ?_ (by first | exact Nat.le_refl _ | (simp only [newB_length, List.length_set, List.length_append, List.length_singleton]; omega) | omega) _ | refine Gr.addN ?_ _ | refine Gr.newN ?_ _ _ _ | exact Gr.trans (by assumption) (by assumption) | refine Gr.trans ?_ (by assumption) | refine Gr.trans (by assumption) ?_)) ; (first | done | fail))
      | ((with_reducible refine Side.intro ?_) <;> (first
      | with_reducible rfl
      | omega
      | assumption
      | exact Nat.le_of_ble_eq_true rfl
      | (simp only [bs_length, List.length_append, List.length_cons, List.length_nil, List.length_take, List.length_drop, List.length_set, List.length_replicate]; omega)
      | exact .inl (by omega)
      | exact .inr (.inl ⟨rfl, by (simp only [bs_length, List.length_append, List.length_cons, List.length_nil, List.length_take, List.length_drop, List.length_set, List.length_replicate]; omega)⟩)
      | exact Ref.ok_refl _ _
      | (simp only [List.append_nil, List.nil_append, List.map_nil]; first | exact List.nodup_nil | exact nodup_bid1 _ | exact nodup_bid2 (by assumption))
      | ((first | refine fresh_tup ?_ | skip); (repeat (first |  exact FreshA.sl _ _ FreshA_bs | exact FreshA.sl _ _ FreshA_is | exact FreshA.nils | exact FreshA.nilp | exact FreshA.int _ _ | exact FreshA.bool _ | exact FreshA.str _ | exact fresh_nil | refine fresh_cons ?_ ?_ | with_reducible refine fresh_aggR ?_ | with_reducible refine fresh_agg ?_ | with_reducible exact fresh_nilA | with_reducible refine fresh_consA ?_ ?_)); done)
      | exact rfl
      | (simp; done)
      ))
      | ((conv => whnf) <;> (first
      | (with_reducible refine and_same ?_)
      | (with_reducible refine and_side ?_ ?_)
      | (with_reducible refine Br.yes rfl ?_)
      | ((with_reducible apply Br.yes) ; (focus omega))
      | ((with_reducible apply Br.no) ; (focus omega))
      | ((with_reducible apply Br.no) ; (focus assumption))
      | ((with_reducible apply Br.yes) ; (focus assumption))
      | ((with_reducible apply Br.yes) ; (focus ((with_reducible refine And.intro ?_ ?_) ; (repeat' (first | with_reducible rfl | exact True.intro | with_reducible refine And.intro ?_ ?_ | omega | assumption)) ; (first | done | fail))))
      | (with_reducible refine Br.mk (fun _ => ?_) (fun _ => ?_))
      | (with_reducible refine Both.mk ?_ ?_)
      | ((with_reducible apply blkAt_intro) ; (focus (first
      | exact rfl
      | ((repeat (first
      | assumption
      | exact get_new
      | exact get_set (by assumption)
      | exact get_set get_new
      | with_reducible apply get_set
      | apply get_set
      | apply get_old
      | (apply get_set_ne; (focus (first | omega | (simp only [newB_length, List.length_set, List.length_append, List.length_singleton, List.length_nil]; omega))))
      )); done)
      )) ; (focus (first | rfl | assumption | omega)) ; (try dsimp only))
      | ((with_reducible apply nthR_dat) ; (focus assumption))
      | ((with_reducible apply nthR_bs1) ; (focus assumption))
      | ((with_reducible apply nthR_is1) ; (focus assumption))
      | ((with_reducible apply appendR_lit) ; (focus (first
      | exact rfl
      | ((repeat (first
      | assumption
      | exact get_new
      | exact get_set (by assumption)
      | exact get_set get_new
      | with_reducible apply get_set
      | apply get_set
      | apply get_old
      | (apply get_set_ne; (focus (first | omega | (simp only [newB_length, List.length_set, List.length_append, List.length_singleton, List.length_nil]; omega))))
      )); done)
      )) ; (focus (first | rfl | assumption)) ; (focus rfl) ; (focus rfl) ; (focus rfl) ; (focus (first | exact Nat.zero_le _ | omega | (simp; done) | (simp; omega))) ; (try dsimp only))
      | (with_reducible refine appendR_nil ?_ ?_)
      | ((with_reducible apply lenR_own) ; (focus assumption))
      | ((with_reducible apply lenR_own) ; (focus (apply Own.upTo ; (focus assumption) ; (repeat (first | exact Gr.refl _ _ | assumption | with_reducible refine Gr.trans ?_ (Gr.boxN _ _ _ _ _) | refine Gr.setNew ?_ (by first | exact Nat.le_refl _ | (simp only [newB_length, List.length_set, List.length_append, List.length_singleton]; omega) | omega) _ | refine Gr.addN ?_ _ | refine Gr.newN ?_ _ _ _ | exact Gr.trans (by assumption) (by assumption) | refine Gr.trans ?_ (by assumption) | refine Gr.trans (by assumption) ?_)) ; (first | done | fail))))
      | ((with_reducible apply rowsR_own) ; (focus assumption))
      | ((with_reducible apply rowsR_own) ; (focus (apply Own.upTo ; (focus assumption) ; (repeat (first | exact Gr.refl _ _ | assumption | with_reducible refine Gr.trans ?_ (Gr.boxN _ _ _ _ _) | refine Gr.setNew ?_ (by first | exact Nat.le_refl _ | (simp only [newB_length, List.length_set, List.length_append, List.length_singleton]; omega) | omega) _ | refine Gr.addN ?_ _ | refine Gr.newN ?_ _ _ _ | exact Gr.trans (by assumption) (by assumption) | refine Gr.trans ?_ (by assumption) | refine Gr.trans (by assumption) ?_)) ; (first | done | fail))))
      | ((with_reducible apply ia_own) ; (focus assumption))
      | ((with_reducible apply ia_own) ; (focus (apply Own.upTo ; (focus assumption) ; (repeat (first | exact Gr.refl _ _ | assumption | with_reducible refine Gr.trans ?_ (Gr.boxN _ _ _ _ _) | refine Gr.setNew ?_ (by first | exact Nat.le_refl _ | (simp only [newB_length, List.length_set, List.length_append, List.length_singleton]; omega) | omega) _ | refine Gr.addN ?_ _ | refine Gr.newN ?_ _ _ _ | exact Gr.trans (by assumption) (by assumption) | refine Gr.trans ?_ (by assumption) | refine Gr.trans (by assumption) ?_)) ; (first | done | fail))))
      | (with_reducible refine ia_sl ?_ ?_)
      | (with_reducible refine IaW.of ?_)
      | (with_reducible refine SliceW.of ?_)
      | ((with_reducible apply AppC.raw) ; (focus assumption))
      | (with_reducible refine AppC.frz ?_)
      | (with_reducible refine EqnW.of ?_)
      | (with_reducible refine CopyW.of ?_)
      | ((with_reducible apply out_own) ; (focus assumption))
      | (with_reducible refine OutW.of ?_)
      | ((with_reducible apply NOut.own) ; (focus assumption))
      | (with_reducible refine NOut.lit ?_)
      | (with_reducible refine nthR_z ?_)
      | ((with_reducible apply nthR_left) ; (focus (first | omega | (simp only [List.length_append, List.length_cons, List.length_nil, List.length_take, List.length_drop, bs_length]; omega))))
      | (with_reducible refine lenR_sl ?_)
      | (with_reducible refine lenR_nils ?_)
      | (with_reducible refine lenR_rsl ?_)
      | (with_reducible refine rowsR_sl ?_)
      | (with_reducible refine rowsR_nils ?_)
      | (with_reducible refine rowsR_rsl ?_)
      | (with_reducible refine lenR_slx ?_)
      | (with_reducible refine rowsR_slx ?_)
      | (with_reducible refine appendR_slx ?_ ?_ ?_)
      | ((with_reducible apply bytesR_intro) ; (focus (first | rfl | (simp only [bs_take, bs_drop, bs_append]; rfl))))
      | ((with_reducible apply nthR_bs) ; (focus (first | omega | (simp only [List.length_append, List.length_cons, List.length_nil, List.length_take, List.length_drop, bs_length]; omega))))
      | (with_reducible intro _)
      ))
      )
    all_goals (conv => whnf)
    all_goals (try dsimp only)
    all_goals first
      | omega
      | exact ret_same rfl
  · have h6 := cl_six ho
    rw [show clE c = 0 from by rw [clE, ho]; rfl]
    have hn : szL[c.toNat]? = some (cw c) := by rcases h6 with rfl | rfl | rfl | rfl | rfl | rfl <;> rfl
    have hcc : 0 ≤ c ∧ c < 6 := by simpa [clOk] using ho
    generalize szL = L at *
    repeat' (first
      | ((with_reducible apply Gr.side) ; with_reducible assumption)
      | ((with_reducible apply Gr.side) ; (repeat (first | exact Gr.refl _ _ | assumption | with_reducible refine Gr.trans ?_ (Gr.boxN _ _ _ _ _) | refine Gr.setNew ?_ (by first | exact Nat.le_refl _ | (simp only [newB_length, List.length_set, List.length_append, List.length_singleton]; omega) | omega) _ | refine Gr.addN ?_ _ | refine Gr.newN ?_ _ _ _ | exact Gr.trans (by assumption) (by assumption) | refine Gr.trans ?_ (by assumption) | refine Gr.trans (by assumption) ?_)) ; (first | done | fail))
      | ((with_reducible refine Side.intro ?_) <;> (first
      | with_reducible rfl
      | omega
      | assumption
      | exact Nat.le_of_ble_eq_true rfl
      | (simp only [bs_length, List.length_append, List.length_cons, List.length_nil, List.length_take, List.length_drop, List.length_set, List.length_replicate]; omega)
      | exact .inl (by omega)
      | exact .inr (.inl ⟨rfl, by (simp only [bs_length, List.length_append, List.length_cons, List.length_nil, List.length_take, List.length_drop, List.length_set, List.length_replicate]; omega)⟩)
      | exact Ref.ok_refl _ _
      | (simp only [List.append_nil, List.nil_append, List.map_nil]; first | exact List.nodup_nil | exact nodup_bid1 _ | exact nodup_bid2 (by assumption))
      | ((first | refine fresh_tup ?_ | skip); (repeat (first |  exact FreshA.sl _ _ FreshA_bs | exact FreshA.sl _ _ FreshA_is | exact FreshA.nils | exact FreshA.nilp | exact FreshA.int _ _ | exact FreshA.bool _ | exact FreshA.str _ | exact fresh_nil | refine fresh_cons ?_ ?_ | with_reducible refine fresh_aggR ?_ | with_reducible refine fresh_agg ?_ | with_reducible exact fresh_nilA | with_reducible refine fresh_consA ?_ ?_)); done)
      | exact rfl
      | (simp; done)
      ))
      | ((conv => whnf) <;> (first
      | (with_reducible refine and_same ?_)
      | (with_reducible refine and_side ?_ ?_)
      | (with_reducible refine Br.yes rfl ?_)
      | ((with_reducible apply Br.yes) ; (focus omega))
      | ((with_reducible apply Br.no) ; (focus omega))
      | ((with_reducible apply Br.no) ; (focus assumption))
      | ((with_reducible apply Br.yes) ; (focus assumption))
      | ((with_reducible apply Br.yes) ; (focus ((with_reducible refine And.intro ?_ ?_) ; (repeat' (first | with_reducible rfl | exact True.intro | with_reducible refine And.intro ?_ ?_ | omega | assumption)) ; (first | done | fail))))
      | (with_reducible refine Br.mk (fun _ => ?_) (fun _ => ?_))
      | (with_reducible refine Both.mk ?_ ?_)
      | ((with_reducible apply blkAt_intro) ; (focus (first
      | exact rfl
      | ((repeat (first
      | assumption
      | exact get_new
      | exact get_set (by assumption)
      | exact get_set get_new
      | with_reducible apply get_set
      | apply get_set
      | apply get_old
      | (apply get_set_ne; (focus (first | omega | (simp only [newB_length, List.length_set, List.length_append, List.length_singleton, List.length_nil]; omega))))
      )); done)
      )) ; (focus (first | rfl | assumption | omega)) ; (try dsimp only))
      | ((with_reducible apply nthR_dat) ; (focus assumption))
      | ((with_reducible apply nthR_bs1) ; (focus assumption))
      | ((with_reducible apply nthR_is1) ; (focus assumption))
      | ((with_reducible apply appendR_lit) ; (focus (first
      | exact rfl
      | ((repeat (first
      | assumption
      | exact get_new
      | exact get_set (by assumption)
      | exact get_set get_new
      | with_reducible apply get_set
      | apply get_set
      | apply get_old
      | (apply get_set_ne; (focus (first | omega | (simp only [newB_length, List.length_set, List.length_append, List.length_singleton, List.length_nil]; omega))))
      )); done)
      )) ; (focus (first | rfl | assumption)) ; (focus rfl) ; (focus rfl) ; (focus rfl) ; (focus (first | exact Nat.zero_le _ | omega | (simp; done) | (simp; omega))) ; (try dsimp only))
      | (with_reducible refine appendR_nil ?_ ?_)
      | ((with_reducible apply lenR_own) ; (focus assumption))
      | ((with_reducible apply lenR_own) ; (focus (apply Own.upTo ; (focus assumption) ; (repeat (first | exact Gr.refl _ _ | assumption | with_reducible refine Gr.trans ?_ (Gr.boxN _ _ _ _ _) | refine Gr.setNew ?_ (by first | exact Nat.le_refl _ | (simp only [newB_length, List.length_set, List.length_append, List.length_singleton]; omega) | omega) _ | refine Gr.addN ?_ _ | refine Gr.newN ?_ _ _ _ | exact Gr.trans (by assumption) (by assumption) | refine Gr.trans ?_ (by assumption) | refine Gr.trans (by assumption) ?_)) ; (first | done | fail))))
      | ((with_reducible apply rowsR_own) ; (focus assumption))
      | ((with_reducible apply rowsR_own) ; (focus (apply Own.upTo ; (focus assumption) ; (repeat (first | exact Gr.refl _ _ | assumption | with_reducible refine Gr.trans ?_ (Gr.boxN _ _ _ _ _) | refine Gr.setNew ?_ (by first | exact Nat.le_refl _ | (simp only [newB_length, List.length_set, List.length_append, List.length_singleton]; omega) | omega) _ | refine Gr.addN ?_ _ | refine Gr.newN ?_ _ _ _ | exact Gr.trans (by assumption) (by assumption) | refine Gr.trans ?_ (by assumption) | refine Gr.trans (by assumption) ?_)) ; (first | done | fail))))
      | ((with_reducible apply ia_own) ; (focus assumption))
      | ((with_reducible apply ia_own) ; (focus (apply Own.upTo ; (focus assumption) ; (repeat (first | exact Gr.refl _ _ | assumption | with_reducible refine Gr.trans ?_ (Gr.boxN _ _ _ _ _) | refine Gr.setNew ?_ (by first | exact Nat.le_refl _ | (simp only [newB_length, List.length_set, List.length_append, List.length_singleton]; omega) | omega) _ | refine Gr.addN ?_ _ | refine Gr.newN ?_ _ _ _ | exact Gr.trans (by assumption) (by assumption) | refine Gr.trans ?_ (by assumption) | refine Gr.trans (by assumption) ?_)) ; (first | done | fail))))
      | (with_reducible refine ia_sl ?_ ?_)
      | (with_reducible refine IaW.of ?_)
      | (with_reducible refine SliceW.of ?_)
      | ((with_reducible apply AppC.raw) ; (focus assumption))
      | (with_reducible refine AppC.frz ?_)
      | (with_reducible refine EqnW.of ?_)
      | (with_reducible refine CopyW.of ?_)
      | ((with_reducible apply out_own) ; (focus assumption))
      | (with_reducible refine OutW.of ?_)
      | ((with_reducible apply NOut.own) ; (focus assumption))
      | (with_reducible refine NOut.lit ?_)
      | (with_reducible refine nthR_z ?_)
      | ((with_reducible apply nthR_left) ; (focus (first | omega | (simp only [List.length_append, List.length_cons, List.length_nil, List.length_take, List.length_drop, bs_length]; omega))))
      | (with_reducible refine lenR_sl ?_)
      | (with_reducible refine lenR_nils ?_)
      | (with_reducible refine lenR_rsl ?_)
      | (with_reducible refine rowsR_sl ?_)
      | (with_reducible refine rowsR_nils ?_)
      | (with_reducible refine rowsR_rsl ?_)
      | (with_reducible refine lenR_slx ?_)
      | (with_reducible refine rowsR_slx ?_)
      | (with_reducible refine appendR_slx ?_ ?_ ?_)
      | ((with_reducible apply bytesR_intro) ; (focus (first | rfl | (simp only [bs_take, bs_drop, bs_append]; rfl))))
      | ((with_reducible apply nthR_bs) ; (focus (first | omega | (simp only [List.length_append, List.length_cons, List.length_nil, List.length_take, List.length_drop, bs_length]; omega))))
      | (with_reducible intro _)
      ))
      )
    all_goals (conv => whnf)
    all_goals (try dsimp only)
    all_goals first
      | omega
      | exact ret_same rfl
theorem RWords_call (c : Int) {σ : AH} {Q : AV → AH → Prop} (h : ∀ σ', Gr σ σ' none → Q (.tup [.int .i64 (cw c), .int .i64 (clE c)]) σ') : CallS Try.prog F.joistref12_Words [.int .i64 c] σ Q :=
  call_two (RWords_ok c) (.cons (.int _ _ _) .nil) rfl rfl h
theorem RCells_ok (c : Int) : AOKn Try.prog F.joistref12_Cells [.int .i64 c] fun y => y = .tup [.int .i64 (cn c), .int .i64 (clE c)] := by
  refine AOKn.by_steps mixed fc_joistref12_Cells_ok (by simp [fc_joistref12_Cells]) ?_
  repeat' (first
    | ((with_reducible apply Gr.side) ; with_reducible assumption)
    | ((with_reducible apply Gr.side) ; (repeat (first | exact Gr.refl _ _ | assumption | with_reducible refine Gr.trans ?_ (Gr.boxN _ _ _ _ _) | refine Gr.setNew ?_ (by first | exact Nat.le_refl _ | (simp only [newB_length, List.length_set, List.length_append, List.length_singleton]; omega) | omega) _ | refine Gr.addN ?_ _ | refine Gr.newN ?_ _ _ _ | exact Gr.trans (by assumption) (by assumption) | refine Gr.trans ?_ (by assumption) | refine Gr.trans (by assumption) ?_)) ; (first | done | fail))
    | ((with_reducible refine Side.intro ?_) <;> (first
    | with_reducible rfl
    | omega
    | assumption
    | exact Nat.le_of_ble_eq_true rfl
    | (simp only [bs_length, List.length_append, List.length_cons, List.length_nil, List.length_take, List.length_drop, List.length_set, List.length_replicate]; omega)
    | exact .inl (by omega)
    | exact .inr (.inl ⟨rfl, by (simp only [bs_length, List.length_append, List.length_cons, List.length_nil, List.length_take, List.length_drop, List.length_set, List.length_replicate]; omega)⟩)
    | exact Ref.ok_refl _ _
    | (simp only [List.append_nil, List.nil_append, List.map_nil]; first | exact List.nodup_nil | exact nodup_bid1 _ | exact nodup_bid2 (by assumption))
    | ((first | refine fresh_tup ?_ | skip); (repeat (first |  exact FreshA.sl _ _ FreshA_bs | exact FreshA.sl _ _ FreshA_is | exact FreshA.nils | exact FreshA.nilp | exact FreshA.int _ _ | exact FreshA.bool _ | exact FreshA.str _ | exact fresh_nil | refine fresh_cons ?_ ?_ | with_reducible refine fresh_aggR ?_ | with_reducible refine fresh_agg ?_ | with_reducible exact fresh_nilA | with_reducible refine fresh_consA ?_ ?_)); done)
    | exact rfl
    | (simp; done)
    ))
    | ((conv => whnf) <;> (first
    | (with_reducible refine and_same ?_)
    | (with_reducible refine and_side ?_ ?_)
    | (with_reducible refine Br.yes rfl ?_)
    | ((with_reducible apply Br.yes) ; (focus omega))
    | ((with_reducible apply Br.no) ; (focus omega))
    | ((with_reducible apply Br.no) ; (focus assumption))
    | ((with_reducible apply Br.yes) ; (focus assumption))
    | ((with_reducible apply Br.yes) ; (focus ((with_reducible refine And.intro ?_ ?_) ; (repeat' (first | with_reducible rfl | exact True.intro | with_reducible refine And.intro ?_ ?_ | omega | assumption)) ; (first | done | fail))))
    | (with_reducible refine Br.mk (fun _ => ?_) (fun _ => ?_))
    | (with_reducible refine Both.mk ?_ ?_)
    | ((with_reducible apply blkAt_intro) ; (focus (first
    | exact rfl
    | ((repeat (first
    | assumption
    | exact get_new
    | exact get_set (by assumption)
    | exact get_set get_new
    | with_reducible apply get_set
    | apply get_set
    | apply get_old
    | (apply get_set_ne; (focus (first | omega | (simp only [newB_length, List.length_set, List.length_append, List.length_singleton, List.length_nil]; omega))))
    )); done)
    )) ; (focus (first | rfl | assumption | omega)) ; (try dsimp only))
    | ((with_reducible apply nthR_dat) ; (focus assumption))
    | ((with_reducible apply nthR_bs1) ; (focus assumption))
    | ((with_reducible apply nthR_is1) ; (focus assumption))
    | ((with_reducible apply appendR_lit) ; (focus (first
    | exact rfl
    | ((repeat (first
    | assumption
    | exact get_new
    | exact get_set (by assumption)
    | exact get_set get_new
    | with_reducible apply get_set
    | apply get_set
    | apply get_old
    | (apply get_set_ne; (focus (first | omega | (simp only [newB_length, List.length_set, List.length_append, List.length_singleton, List.length_nil]; omega))))
    )); done)
    )) ; (focus (first | rfl | assumption)) ; (focus rfl) ; (focus rfl) ; (focus rfl) ; (focus (first | exact Nat.zero_le _ | omega | (simp; done) | (simp; omega))) ; (try dsimp only))
    | (with_reducible refine appendR_nil ?_ ?_)
    | ((with_reducible apply lenR_own) ; (focus assumption))
    | ((with_reducible apply lenR_own) ; (focus (apply Own.upTo ; (focus assumption) ; (repeat (first | exact Gr.refl _ _ | assumption | with_reducible refine Gr.trans ?_ (Gr.boxN _ _ _ _ _) | refine Gr.setNew ?_ (by first | exact Nat.le_refl _ | (simp only [newB_length, List.length_set, List.length_append, List.length_singleton]; omega) | omega) _ | refine Gr.addN ?_ _ | refine Gr.newN ?_ _ _ _ | exact Gr.trans (by assumption) (by assumption) | refine Gr.trans ?_ (by assumption) | refine Gr.trans (by assumption) ?_)) ; (first | done | fail))))
    | ((with_reducible apply rowsR_own) ; (focus assumption))
    | ((with_reducible apply rowsR_own) ; (focus (apply Own.upTo ; (focus assumption) ; (repeat (first | exact Gr.refl _ _ | assumption | with_reducible refine Gr.trans ?_ (Gr.boxN _ _ _ _ _) | refine Gr.setNew ?_ (by first | exact Nat.le_refl _ | (simp only [newB_length, List.length_set, List.length_append, List.length_singleton]; omega) | omega) _ | refine Gr.addN ?_ _ | refine Gr.newN ?_ _ _ _ | exact Gr.trans (by assumption) (by assumption) | refine Gr.trans ?_ (by assumption) | refine Gr.trans (by assumption) ?_)) ; (first | done | fail))))
    | ((with_reducible apply ia_own) ; (focus assumption))
    | ((with_reducible apply ia_own) ; (focus (apply Own.upTo ; (focus assumption) ; (repeat (first | exact Gr.refl _ _ | assumption | with_reducible refine Gr.trans ?_ (Gr.boxN _ _ _ _ _) | refine Gr.setNew ?_ (by first | exact Nat.le_refl _ | (simp only [newB_length, List.length_set, List.length_append, List.length_singleton]; omega) | omega) _ | refine Gr.addN ?_ _ | refine Gr.newN ?_ _ _ _ | exact Gr.trans (by assumption) (by assumption) | refine Gr.trans ?_ (by assumption) | refine Gr.trans (by assumption) ?_)) ; (first | done | fail))))
    | (with_reducible refine ia_sl ?_ ?_)
    | (with_reducible refine IaW.of ?_)
    | (with_reducible refine SliceW.of ?_)
    | ((with_reducible apply AppC.raw) ; (focus assumption))
    | (with_reducible refine AppC.frz ?_)
    | (with_reducible refine EqnW.of ?_)
    | (with_reducible refine CopyW.of ?_)
    | ((with_reducible apply out_own) ; (focus assumption))
    | (with_reducible refine OutW.of ?_)
    | ((with_reducible apply NOut.own) ; (focus assumption))
    | (with_reducible refine NOut.lit ?_)
    | (with_reducible refine nthR_z ?_)
    | ((with_reducible apply nthR_left) ; (focus (first | omega | (simp only [List.length_append, List.length_cons, List.length_nil, List.length_take, List.length_drop, bs_length]; omega))))
    | (with_reducible refine lenR_sl ?_)
    | (with_reducible refine lenR_nils ?_)
    | (with_reducible refine lenR_rsl ?_)
    | (with_reducible refine rowsR_sl ?_)
    | (with_reducible refine rowsR_nils ?_)
    | (with_reducible refine rowsR_rsl ?_)
    | (with_reducible refine lenR_slx ?_)
    | (with_reducible refine rowsR_slx ?_)
    | (with_reducible refine appendR_slx ?_ ?_ ?_)
    | ((with_reducible apply bytesR_intro) ; (focus (first | rfl | (simp only [bs_take, bs_drop, bs_append]; rfl))))
    | ((with_reducible apply nthR_bs) ; (focus (first | omega | (simp only [List.length_append, List.length_cons, List.length_nil, List.length_take, List.length_drop, bs_length]; omega))))
    | (with_reducible intro _)
    ))
    )
  all_goals (conv => whnf)
  all_goals (try dsimp only)
  refine RWords_call c fun H1 hg1 => ?_
  cases ho : clOk c
  · have h1 := cl_no ho
    rw [h1.1, h1.2, show clE c = 1 from by rw [clE, ho]; rfl]
    repeat' (first
      | ((with_reducible apply Gr.side) ; with_reducible assumption)
      | ((with_reducible apply Gr.side) ; (repeat (first | exact Gr.refl _ _ | assumption | with_reducible refine Gr.trans ?_ (Gr.boxN _ _ _ _ _) | refine Gr.setNew ?_ (by first | exact Nat.le_refl _ | (simp only [newB_length, List.length_set, List.length_append, List.length_singleton]; omega) | omega) _ | refine Gr.addN ?_ _ | refine Gr.newN ?_ _ _ _ | exact Gr.trans (by assumption) (by assumption) | refine Gr.trans ?_ (by assumption) | refine Gr.trans (by assumption) ?_)) ; (first | done | fail))
      | ((with_reducible refine Side.intro ?_) <;> (first
      | with_reducible rfl
      | omega
      | assumption
      | exact Nat.le_of_ble_eq_true rfl
      | (simp only [bs_length, List.length_append, List.length_cons, List.length_nil, List.length_take, List.length_drop, List.length_set, List.length_replicate]; omega)
      | exact .inl (by omega)
      | exact .inr (.inl ⟨rfl, by (simp only [bs_length, List.length_append, List.length_cons, List.length_nil, List.length_take, List.length_drop, List.length_set, List.length_replicate]; omega)⟩)
      | exact Ref.ok_refl _ _
      | (simp only [List.append_nil, List.nil_append, List.map_nil]; first | exact List.nodup_nil | exact nodup_bid1 _ | exact nodup_bid2 (by assumption))
      | ((first | refine fresh_tup ?_ | skip); (repeat (first |  exact FreshA.sl _ _ FreshA_bs | exact FreshA.sl _ _ FreshA_is | exact FreshA.nils | exact FreshA.nilp | exact FreshA.int _ _ | exact FreshA.bool _ | exact FreshA.str _ | exact fresh_nil | refine fresh_cons ?_ ?_ | with_reducible refine fresh_aggR ?_ | with_reducible refine fresh_agg ?_ | with_reducible exact fresh_nilA | with_reducible refine fresh_consA ?_ ?_)); done)
      | exact rfl
      | (simp; done)
      ))
      | ((conv => whnf) <;> (first
      | (with_reducible refine and_same ?_)
      | (with_reducible refine and_side ?_ ?_)
      | (with_reducible refine Br.yes rfl ?_)
      | ((with_reducible apply Br.yes) ; (focus omega))
      | ((with_reducible apply Br.no) ; (focus omega))
      | ((with_reducible apply Br.no) ; (focus assumption))
      | ((with_reducible apply Br.yes) ; (focus assumption))
      | ((with_reducible apply Br.yes) ; (focus ((with_reducible refine And.intro ?_ ?_) ; (repeat' (first | with_reducible rfl | exact True.intro | with_reducible refine And.intro ?_ ?_ | omega | assumption)) ; (first | done | fail))))
      | (with_reducible refine Br.mk (fun _ => ?_) (fun _ => ?_))
      | (with_reducible refine Both.mk ?_ ?_)
      | ((with_reducible apply blkAt_intro) ; (focus (first
      | exact rfl
      | ((repeat (first
      | assumption
      | exact get_new
      | exact get_set (by assumption)
      | exact get_set get_new
      | with_reducible apply get_set
      | apply get_set
      | apply get_old
      | (apply get_set_ne; (focus (first | omega | (simp only [newB_length, List.length_set, List.length_append, List.length_singleton, List.length_nil]; omega))))
      )); done)
      )) ; (focus (first | rfl | assumption | omega)) ; (try dsimp only))
      | ((with_reducible apply nthR_dat) ; (focus assumption))
      | ((with_reducible apply nthR_bs1) ; (focus assumption))
      | ((with_reducible apply nthR_is1) ; (focus assumption))
      | ((with_reducible apply appendR_lit) ; (focus (first
      | exact rfl
      | ((repeat (first
      | assumption
      | exact get_new
      | exact get_set (by assumption)
      | exact get_set get_new
      | with_reducible apply get_set
      | apply get_set
      | apply get_old
      | (apply get_set_ne; (focus (first | omega | (simp only [newB_length, List.length_set, List.length_append, List.length_singleton, List.length_nil]; omega))))
      )); done)
      )) ; (focus (first | rfl | assumption)) ; (focus rfl) ; (focus rfl) ; (focus rfl) ; (focus (first | exact Nat.zero_le _ | omega | (simp; done) | (simp; omega))) ; (try dsimp only))
      | (with_reducible refine appendR_nil ?_ ?_)
      | ((with_reducible apply lenR_own) ; (focus assumption))
      | ((with_reducible apply lenR_own) ; (focus (apply Own.upTo ; (focus assumption) ; (repeat (first | exact Gr.refl _ _ | assumption | with_reducible refine Gr.trans ?_ (Gr.boxN _ _ _ _ _) | refine Gr.setNew ?_ (by first | exact Nat.le_refl _ | (simp only [newB_length, List.length_set, List.length_append, List.length_singleton]; omega) | omega) _ | refine Gr.addN ?_ _ | refine Gr.newN ?_ _ _ _ | exact Gr.trans (by assumption) (by assumption) | refine Gr.trans ?_ (by assumption) | refine Gr.trans (by assumption) ?_)) ; (first | done | fail))))
      | ((with_reducible apply rowsR_own) ; (focus assumption))
      | ((with_reducible apply rowsR_own) ; (focus (apply Own.upTo ; (focus assumption) ; (repeat (first | exact Gr.refl _ _ | assumption | with_reducible refine Gr.trans ?_ (Gr.boxN _ _ _ _ _) | refine Gr.setNew ?_ (by first | exact Nat.le_refl _ | (simp only [newB_length, List.length_set, List.length_append, List.length_singleton]; omega) | omega) _ | refine Gr.addN ?_ _ | refine Gr.newN ?_ _ _ _ | exact Gr.trans (by assumption) (by assumption) | refine Gr.trans ?_ (by assumption) | refine Gr.trans (by assumption) ?_)) ; (first | done | fail))))
      | ((with_reducible apply ia_own) ; (focus assumption))
      | ((with_reducible apply ia_own) ; (focus (apply Own.upTo ; (focus assumption) ; (repeat (first | exact Gr.refl _ _ | assumption | with_reducible refine Gr.trans ?_ (Gr.boxN _ _ _ _ _) | refine Gr.setNew ?_ (by first | exact Nat.le_refl _ | (simp only [newB_length, List.length_set, List.length_append, List.length_singleton]; omega) | omega) _ | refine Gr.addN ?_ _ | refine Gr.newN ?_ _ _ _ | exact Gr.trans (by assumption) (by assumption) | refine Gr.trans ?_ (by assumption) | refine Gr.trans (by assumption) ?_)) ; (first | done | fail))))
      | (with_reducible refine ia_sl ?_ ?_)
      | (with_reducible refine IaW.of ?_)
      | (with_reducible refine SliceW.of ?_)
      | ((with_reducible apply AppC.raw) ; (focus assumption))
      | (with_reducible refine AppC.frz ?_)
      | (with_reducible refine EqnW.of ?_)
      | (with_reducible refine CopyW.of ?_)
      | ((with_reducible apply out_own) ; (focus assumption))
      | (with_reducible refine OutW.of ?_)
      | ((with_reducible apply NOut.own) ; (focus assumption))
      | (with_reducible refine NOut.lit ?_)
      | (with_reducible refine nthR_z ?_)
      | ((with_reducible apply nthR_left) ; (focus (first | omega | (simp only [List.length_append, List.length_cons, List.length_nil, List.length_take, List.length_drop, bs_length]; omega))))
      | (with_reducible refine lenR_sl ?_)
      | (with_reducible refine lenR_nils ?_)
      | (with_reducible refine lenR_rsl ?_)
      | (with_reducible refine rowsR_sl ?_)
      | (with_reducible refine rowsR_nils ?_)
      | (with_reducible refine rowsR_rsl ?_)
      | (with_reducible refine lenR_slx ?_)
      | (with_reducible refine rowsR_slx ?_)
      | (with_reducible refine appendR_slx ?_ ?_ ?_)
      | ((with_reducible apply bytesR_intro) ; (focus (first | rfl | (simp only [bs_take, bs_drop, bs_append]; rfl))))
      | ((with_reducible apply nthR_bs) ; (focus (first | omega | (simp only [List.length_append, List.length_cons, List.length_nil, List.length_take, List.length_drop, bs_length]; omega))))
      | (with_reducible intro _)
      ))
      )
    all_goals (conv => whnf)
    all_goals (try dsimp only)
    exact ret_same rfl
  · have h6 := cl_six ho
    rw [show clE c = 0 from by rw [clE, ho]; rfl]
    have hcw : 2 ≤ cw c ∧ cw c ≤ 15 := by rcases h6 with rfl | rfl | rfl | rfl | rfl | rfl <;> decide
    have e1 : (28 : Int).tdiv (cw c) = cn c := by rcases h6 with rfl | rfl | rfl | rfl | rfl | rfl <;> decide
    have e2 : (28 : Int) / (cw c) = cn c := by rcases h6 with rfl | rfl | rfl | rfl | rfl | rfl <;> decide
    have hcn := cn_bd c
    repeat' (first
      | ((with_reducible apply Gr.side) ; with_reducible assumption)
      | ((with_reducible apply Gr.side) ; (repeat (first | exact Gr.refl _ _ | assumption | with_reducible refine Gr.trans ?_ (Gr.boxN _ _ _ _ _) | refine Gr.setNew ?_ (by first | exact Nat.le_refl _ | (simp only [newB_length, List.length_set, List.length_append, List.length_singleton]; omega) | omega) _ | refine Gr.addN ?_ _ | refine Gr.newN ?_ _ _ _ | exact Gr.trans (by assumption) (by assumption) | refine Gr.trans ?_ (by assumption) | refine Gr.trans (by assumption) ?_)) ; (first | done | fail))
      | ((with_reducible refine Side.intro ?_) <;> (first
      | with_reducible rfl
      | omega
      | assumption
      | exact Nat.le_of_ble_eq_true rfl
      | (simp only [bs_length, List.length_append, List.length_cons, List.length_nil, List.length_take, List.length_drop, List.length_set, List.length_replicate]; omega)
      | exact .inl (by omega)
      | exact .inr (.inl ⟨rfl, by (simp only [bs_length, List.length_append, List.length_cons, List.length_nil, List.length_take, List.length_drop, List.length_set, List.length_replicate]; omega)⟩)
      | exact Ref.ok_refl _ _
      | (simp only [List.append_nil, List.nil_append, List.map_nil]; first | exact List.nodup_nil | exact nodup_bid1 _ | exact nodup_bid2 (by assumption))
      | ((first | refine fresh_tup ?_ | skip); (repeat (first |  exact FreshA.sl _ _ FreshA_bs | exact FreshA.sl _ _ FreshA_is | exact FreshA.nils | exact FreshA.nilp | exact FreshA.int _ _ | exact FreshA.bool _ | exact FreshA.str _ | exact fresh_nil | refine fresh_cons ?_ ?_ | with_reducible refine fresh_aggR ?_ | with_reducible refine fresh_agg ?_ | with_reducible exact fresh_nilA | with_reducible refine fresh_consA ?_ ?_)); done)
      | exact rfl
      | (simp; done)
      ))
      | ((conv => whnf) <;> (first
      | (with_reducible refine and_same ?_)
      | (with_reducible refine and_side ?_ ?_)
      | (with_reducible refine Br.yes rfl ?_)
      | ((with_reducible apply Br.yes) ; (focus omega))
      | ((with_reducible apply Br.no) ; (focus omega))
      | ((with_reducible apply Br.no) ; (focus assumption))
      | ((with_reducible apply Br.yes) ; (focus assumption))
      | ((with_reducible apply Br.yes) ; (focus ((with_reducible refine And.intro ?_ ?_) ; (repeat' (first | with_reducible rfl | exact True.intro | with_reducible refine And.intro ?_ ?_ | omega | assumption)) ; (first | done | fail))))
      | (with_reducible refine Br.mk (fun _ => ?_) (fun _ => ?_))
      | (with_reducible refine Both.mk ?_ ?_)
      | ((with_reducible apply blkAt_intro) ; (focus (first
      | exact rfl
      | ((repeat (first
      | assumption
      | exact get_new
      | exact get_set (by assumption)
      | exact get_set get_new
      | with_reducible apply get_set
      | apply get_set
      | apply get_old
      | (apply get_set_ne; (focus (first | omega | (simp only [newB_length, List.length_set, List.length_append, List.length_singleton, List.length_nil]; omega))))
      )); done)
      )) ; (focus (first | rfl | assumption | omega)) ; (try dsimp only))
      | ((with_reducible apply nthR_dat) ; (focus assumption))
      | ((with_reducible apply nthR_bs1) ; (focus assumption))
      | ((with_reducible apply nthR_is1) ; (focus assumption))
      | ((with_reducible apply appendR_lit) ; (focus (first
      | exact rfl
      | ((repeat (first
      | assumption
      | exact get_new
      | exact get_set (by assumption)
      | exact get_set get_new
      | with_reducible apply get_set
      | apply get_set
      | apply get_old
      | (apply get_set_ne; (focus (first | omega | (simp only [newB_length, List.length_set, List.length_append, List.length_singleton, List.length_nil]; omega))))
      )); done)
      )) ; (focus (first | rfl | assumption)) ; (focus rfl) ; (focus rfl) ; (focus rfl) ; (focus (first | exact Nat.zero_le _ | omega | (simp; done) | (simp; omega))) ; (try dsimp only))
      | (with_reducible refine appendR_nil ?_ ?_)
      | ((with_reducible apply lenR_own) ; (focus assumption))
      | ((with_reducible apply lenR_own) ; (focus (apply Own.upTo ; (focus assumption) ; (repeat (first | exact Gr.refl _ _ | assumption | with_reducible refine Gr.trans ?_ (Gr.boxN _ _ _ _ _) | refine Gr.setNew ?_ (by first | exact Nat.le_refl _ | (simp only [newB_length, List.length_set, List.length_append, List.length_singleton]; omega) | omega) _ | refine Gr.addN ?_ _ | refine Gr.newN ?_ _ _ _ | exact Gr.trans (by assumption) (by assumption) | refine Gr.trans ?_ (by assumption) | refine Gr.trans (by assumption) ?_)) ; (first | done | fail))))
      | ((with_reducible apply rowsR_own) ; (focus assumption))
      | ((with_reducible apply rowsR_own) ; (focus (apply Own.upTo ; (focus assumption) ; (repeat (first | exact Gr.refl _ _ | assumption | with_reducible refine Gr.trans ?_ (Gr.boxN _ _ _ _ _) | refine Gr.setNew ?_ (by first | exact Nat.le_refl _ | (simp only [newB_length, List.length_set, List.length_append, List.length_singleton]; omega) | omega) _ | refine Gr.addN ?_ _ | refine Gr.newN ?_ _ _ _ | exact Gr.trans (by assumption) (by assumption) | refine Gr.trans ?_ (by assumption) | refine Gr.trans (by assumption) ?_)) ; (first | done | fail))))
      | ((with_reducible apply ia_own) ; (focus assumption))
      | ((with_reducible apply ia_own) ; (focus (apply Own.upTo ; (focus assumption) ; (repeat (first | exact Gr.refl _ _ | assumption | with_reducible refine Gr.trans ?_ (Gr.boxN _ _ _ _ _) | refine Gr.setNew ?_ (by first | exact Nat.le_refl _ | (simp only [newB_length, List.length_set, List.length_append, List.length_singleton]; omega) | omega) _ | refine Gr.addN ?_ _ | refine Gr.newN ?_ _ _ _ | exact Gr.trans (by assumption) (by assumption) | refine Gr.trans ?_ (by assumption) | refine Gr.trans (by assumption) ?_)) ; (first | done | fail))))
      | (with_reducible refine ia_sl ?_ ?_)
      | (with_reducible refine IaW.of ?_)
      | (with_reducible refine SliceW.of ?_)
      | ((with_reducible apply AppC.raw) ; (focus assumption))
      | (with_reducible refine AppC.frz ?_)
      | (with_reducible refine EqnW.of ?_)
      | (with_reducible refine CopyW.of ?_)
      | ((with_reducible apply out_own) ; (focus assumption))
      | (with_reducible refine OutW.of ?_)
      | ((with_reducible apply NOut.own) ; (focus assumption))
      | (with_reducible refine NOut.lit ?_)
      | (with_reducible refine nthR_z ?_)
      | ((with_reducible apply nthR_left) ; (focus (first | omega | (simp only [List.length_append, List.length_cons, List.length_nil, List.length_take, List.length_drop, bs_length]; omega))))
      | (with_reducible refine lenR_sl ?_)
      | (with_reducible refine lenR_nils ?_)
      | (with_reducible refine lenR_rsl ?_)
      | (with_reducible refine rowsR_sl ?_)
      | (with_reducible refine rowsR_nils ?_)
      | (with_reducible refine rowsR_rsl ?_)
      | (with_reducible refine lenR_slx ?_)
      | (with_reducible refine rowsR_slx ?_)
      | (with_reducible refine appendR_slx ?_ ?_ ?_)
      | ((with_reducible apply bytesR_intro) ; (focus (first | rfl | (simp only [bs_take, bs_drop, bs_append]; rfl))))
      | ((with_reducible apply nthR_bs) ; (focus (first | omega | (simp only [List.length_append, List.length_cons, List.length_nil, List.length_take, List.length_drop, bs_length]; omega))))
      | (with_reducible intro _)
      ))
      )
    all_goals (conv => whnf)
    all_goals (try dsimp only)
    all_goals first
      | (rw [e1]; exact ret_same rfl)
      | (rw [e2]; exact ret_same rfl)
theorem RCells_call (c : Int) {σ : AH} {Q : AV → AH → Prop} (h : ∀ σ', Gr σ σ' none → Q (.tup [.int .i64 (cn c), .int .i64 (clE c)]) σ') : CallS Try.prog F.joistref12_Cells [.int .i64 c] σ Q :=
  call_two (RCells_ok c) (.cons (.int _ _ _) .nil) rfl rfl h
theorem RCell_ok (c k : Int) : AOKn Try.prog F.joistref12_Cell [.int .i64 c, .int .i64 k] fun y => y = .tup [.int .i64 (ceV c k), .int .i64 (ceE c k)] := by
  refine AOKn.by_steps mixed fc_joistref12_Cell_ok (by simp [fc_joistref12_Cell]) ?_
  repeat' (first
    | ((with_reducible apply Gr.side) ; with_reducible assumption)
    | ((with_reducible apply Gr.side) ; (repeat (first | exact Gr.refl _ _ | assumption | with_reducible refine Gr.trans ?_ (Gr.boxN _ _ _ _ _) | refine Gr.setNew ?_ (by first | exact Nat.le_refl _ | (simp only [newB_length, List.length_set, List.length_append, List.length_singleton]; omega) | omega) _ | refine Gr.addN ?_ _ | refine Gr.newN ?_ _ _ _ | exact Gr.trans (by assumption) (by assumption) | refine Gr.trans ?_ (by assumption) | refine Gr.trans (by assumption) ?_)) ; (first | done | fail))
    | ((with_reducible refine Side.intro ?_) <;> (first
    | with_reducible rfl
    | omega
    | assumption
    | exact Nat.le_of_ble_eq_true rfl
    | (simp only [bs_length, List.length_append, List.length_cons, List.length_nil, List.length_take, List.length_drop, List.length_set, List.length_replicate]; omega)
    | exact .inl (by omega)
    | exact .inr (.inl ⟨rfl, by (simp only [bs_length, List.length_append, List.length_cons, List.length_nil, List.length_take, List.length_drop, List.length_set, List.length_replicate]; omega)⟩)
    | exact Ref.ok_refl _ _
    | (simp only [List.append_nil, List.nil_append, List.map_nil]; first | exact List.nodup_nil | exact nodup_bid1 _ | exact nodup_bid2 (by assumption))
    | ((first | refine fresh_tup ?_ | skip); (repeat (first |  exact FreshA.sl _ _ FreshA_bs | exact FreshA.sl _ _ FreshA_is | exact FreshA.nils | exact FreshA.nilp | exact FreshA.int _ _ | exact FreshA.bool _ | exact FreshA.str _ | exact fresh_nil | refine fresh_cons ?_ ?_ | with_reducible refine fresh_aggR ?_ | with_reducible refine fresh_agg ?_ | with_reducible exact fresh_nilA | with_reducible refine fresh_consA ?_ ?_)); done)
    | exact rfl
    | (simp; done)
    ))
    | ((conv => whnf) <;> (first
    | (with_reducible refine and_same ?_)
    | (with_reducible refine and_side ?_ ?_)
    | (with_reducible refine Br.yes rfl ?_)
    | ((with_reducible apply Br.yes) ; (focus omega))
    | ((with_reducible apply Br.no) ; (focus omega))
    | ((with_reducible apply Br.no) ; (focus assumption))
    | ((with_reducible apply Br.yes) ; (focus assumption))
    | ((with_reducible apply Br.yes) ; (focus ((with_reducible refine And.intro ?_ ?_) ; (repeat' (first | with_reducible rfl | exact True.intro | with_reducible refine And.intro ?_ ?_ | omega | assumption)) ; (first | done | fail))))
    | (with_reducible refine Br.mk (fun _ => ?_) (fun _ => ?_))
    | (with_reducible refine Both.mk ?_ ?_)
    | ((with_reducible apply blkAt_intro) ; (focus (first
    | exact rfl
    | ((repeat (first
    | assumption
    | exact get_new
    | exact get_set (by assumption)
    | exact get_set get_new
    | with_reducible apply get_set
    | apply get_set
    | apply get_old
    | (apply get_set_ne; (focus (first | omega | (simp only [newB_length, List.length_set, List.length_append, List.length_singleton, List.length_nil]; omega))))
    )); done)
    )) ; (focus (first | rfl | assumption | omega)) ; (try dsimp only))
    | ((with_reducible apply nthR_dat) ; (focus assumption))
    | ((with_reducible apply nthR_bs1) ; (focus assumption))
    | ((with_reducible apply nthR_is1) ; (focus assumption))
    | ((with_reducible apply appendR_lit) ; (focus (first
    | exact rfl
    | ((repeat (first
    | assumption
    | exact get_new
    | exact get_set (by assumption)
    | exact get_set get_new
    | with_reducible apply get_set
    | apply get_set
    | apply get_old
    | (apply get_set_ne; (focus (first | omega | (simp only [newB_length, List.length_set, List.length_append, List.length_singleton, List.length_nil]; omega))))
    )); done)
    )) ; (focus (first | rfl | assumption)) ; (focus rfl) ; (focus rfl) ; (focus rfl) ; (focus (first | exact Nat.zero_le _ | omega | (simp; done) | (simp; omega))) ; (try dsimp only))
    | (with_reducible refine appendR_nil ?_ ?_)
    | ((with_reducible apply lenR_own) ; (focus assumption))
    | ((with_reducible apply lenR_own) ; (focus (apply Own.upTo ; (focus assumption) ; (repeat (first | exact Gr.refl _ _ | assumption | with_reducible refine Gr.trans ?_ (Gr.boxN _ _ _ _ _) | refine Gr.setNew ?_ (by first | exact Nat.le_refl _ | (simp only [newB_length, List.length_set, List.length_append, List.length_singleton]; omega) | omega) _ | refine Gr.addN ?_ _ | refine Gr.newN ?_ _ _ _ | exact Gr.trans (by assumption) (by assumption) | refine Gr.trans ?_ (by assumption) | refine Gr.trans (by assumption) ?_)) ; (first | done | fail))))
    | ((with_reducible apply rowsR_own) ; (focus assumption))
    | ((with_reducible apply rowsR_own) ; (focus (apply Own.upTo ; (focus assumption) ; (repeat (first | exact Gr.refl _ _ | assumption | with_reducible refine Gr.trans ?_ (Gr.boxN _ _ _ _ _) | refine Gr.setNew ?_ (by first | exact Nat.le_refl _ | (simp only [newB_length, List.length_set, List.length_append, List.length_singleton]; omega) | omega) _ | refine Gr.addN ?_ _ | refine Gr.newN ?_ _ _ _ | exact Gr.trans (by assumption) (by assumption) | refine Gr.trans ?_ (by assumption) | refine Gr.trans (by assumption) ?_)) ; (first | done | fail))))
    | ((with_reducible apply ia_own) ; (focus assumption))
    | ((with_reducible apply ia_own) ; (focus (apply Own.upTo ; (focus assumption) ; (repeat (first | exact Gr.refl _ _ | assumption | with_reducible refine Gr.trans ?_ (Gr.boxN _ _ _ _ _) | refine Gr.setNew ?_ (by first | exact Nat.le_refl _ | (simp only [newB_length, List.length_set, List.length_append, List.length_singleton]; omega) | omega) _ | refine Gr.addN ?_ _ | refine Gr.newN ?_ _ _ _ | exact Gr.trans (by assumption) (by assumption) | refine Gr.trans ?_ (by assumption) | refine Gr.trans (by assumption) ?_)) ; (first | done | fail))))
    | (with_reducible refine ia_sl ?_ ?_)
    | (with_reducible refine IaW.of ?_)
    | (with_reducible refine SliceW.of ?_)
    | ((with_reducible apply AppC.raw) ; (focus assumption))
    | (with_reducible refine AppC.frz ?_)
    | (with_reducible refine EqnW.of ?_)
    | (with_reducible refine CopyW.of ?_)
    | ((with_reducible apply out_own) ; (focus assumption))
    | (with_reducible refine OutW.of ?_)
    | ((with_reducible apply NOut.own) ; (focus assumption))
    | (with_reducible refine NOut.lit ?_)
    | (with_reducible refine nthR_z ?_)
    | ((with_reducible apply nthR_left) ; (focus (first | omega | (simp only [List.length_append, List.length_cons, List.length_nil, List.length_take, List.length_drop, bs_length]; omega))))
    | (with_reducible refine lenR_sl ?_)
    | (with_reducible refine lenR_nils ?_)
    | (with_reducible refine lenR_rsl ?_)
    | (with_reducible refine rowsR_sl ?_)
    | (with_reducible refine rowsR_nils ?_)
    | (with_reducible refine rowsR_rsl ?_)
    | (with_reducible refine lenR_slx ?_)
    | (with_reducible refine rowsR_slx ?_)
    | (with_reducible refine appendR_slx ?_ ?_ ?_)
    | ((with_reducible apply bytesR_intro) ; (focus (first | rfl | (simp only [bs_take, bs_drop, bs_append]; rfl))))
    | ((with_reducible apply nthR_bs) ; (focus (first | omega | (simp only [List.length_append, List.length_cons, List.length_nil, List.length_take, List.length_drop, bs_length]; omega))))
    | (with_reducible intro _)
    ))
    )
  all_goals (conv => whnf)
  all_goals (try dsimp only)
  refine RCells_call c fun H1 hg1 => ?_
  cases ho : clOk c
  · have h1 := cl_no ho
    have e : ceOk c k = false := by rw [ceOk, ho]; rfl
    rw [ceV, ceE, e, show clE c = 1 from by rw [clE, ho]; rfl]
    repeat' (first
      | ((with_reducible apply Gr.side) ; with_reducible assumption)
      | ((with_reducible apply Gr.side) ; (repeat (first | exact Gr.refl _ _ | assumption | with_reducible refine Gr.trans ?_ (Gr.boxN _ _ _ _ _) | refine Gr.setNew ?_ (by first | exact Nat.le_refl _ | (simp only [newB_length, List.length_set, List.length_append, List.length_singleton]; omega) | omega) _ | refine Gr.addN ?_ _ | refine Gr.newN ?_ _ _ _ | exact Gr.trans (by assumption) (by assumption) | refine Gr.trans ?_ (by assumption) | refine Gr.trans (by assumption) ?_)) ; (first | done | fail))
      | ((with_reducible refine Side.intro ?_) <;> (first
      | with_reducible rfl
      | omega
      | assumption
      | exact Nat.le_of_ble_eq_true rfl
      | (simp only [bs_length, List.length_append, List.length_cons, List.length_nil, List.length_take, List.length_drop, List.length_set, List.length_replicate]; omega)
      | exact .inl (by omega)
      | exact .inr (.inl ⟨rfl, by (simp only [bs_length, List.length_append, List.length_cons, List.length_nil, List.length_take, List.length_drop, List.length_set, List.length_replicate]; omega)⟩)
      | exact Ref.ok_refl _ _
      | (simp only [List.append_nil, List.nil_append, List.map_nil]; first | exact List.nodup_nil | exact nodup_bid1 _ | exact nodup_bid2 (by assumption))
      | ((first | refine fresh_tup ?_ | skip); (repeat (first |  exact FreshA.sl _ _ FreshA_bs | exact FreshA.sl _ _ FreshA_is | exact FreshA.nils | exact FreshA.nilp | exact FreshA.int _ _ | exact FreshA.bool _ | exact FreshA.str _ | exact fresh_nil | refine fresh_cons ?_ ?_ | with_reducible refine fresh_aggR ?_ | with_reducible refine fresh_agg ?_ | with_reducible exact fresh_nilA | with_reducible refine fresh_consA ?_ ?_)); done)
      | exact rfl
      | (simp; done)
      ))
      | ((conv => whnf) <;> (first
      | (with_reducible refine and_same ?_)
      | (with_reducible refine and_side ?_ ?_)
      | (with_reducible refine Br.yes rfl ?_)
      | ((with_reducible apply Br.yes) ; (focus omega))
      | ((with_reducible apply Br.no) ; (focus omega))
      | ((with_reducible apply Br.no) ; (focus assumption))
      | ((with_reducible apply Br.yes) ; (focus assumption))
      | ((with_reducible apply Br.yes) ; (focus ((with_reducible refine And.intro ?_ ?_) ; (repeat' (first | with_reducible rfl | exact True.intro | with_reducible refine And.intro ?_ ?_ | omega | assumption)) ; (first | done | fail))))
      | (with_reducible refine Br.mk (fun _ => ?_) (fun _ => ?_))
      | (with_reducible refine Both.mk ?_ ?_)
      | ((with_reducible apply blkAt_intro) ; (focus (first
      | exact rfl
      | ((repeat (first
      | assumption
      | exact get_new
      | exact get_set (by assumption)
      | exact get_set get_new
      | with_reducible apply get_set
      | apply get_set
      | apply get_old
      | (apply get_set_ne; (focus (first | omega | (simp only [newB_length, List.length_set, List.length_append, List.length_singleton, List.length_nil]; omega))))
      )); done)
      )) ; (focus (first | rfl | assumption | omega)) ; (try dsimp only))
      | ((with_reducible apply nthR_dat) ; (focus assumption))
      | ((with_reducible apply nthR_bs1) ; (focus assumption))
      | ((with_reducible apply nthR_is1) ; (focus assumption))
      | ((with_reducible apply appendR_lit) ; (focus (first
      | exact rfl
      | ((repeat (first
      | assumption
      | exact get_new
      | exact get_set (by assumption)
      | exact get_set get_new
      | with_reducible apply get_set
      | apply get_set
      | apply get_old
      | (apply get_set_ne; (focus (first | omega | (simp only [newB_length, List.length_set, List.length_append, List.length_singleton, List.length_nil]; omega))))
      )); done)
      )) ; (focus (first | rfl | assumption)) ; (focus rfl) ; (focus rfl) ; (focus rfl) ; (focus (first | exact Nat.zero_le _ | omega | (simp; done) | (simp; omega))) ; (try dsimp only))
      | (with_reducible refine appendR_nil ?_ ?_)
      | ((with_reducible apply lenR_own) ; (focus assumption))
      | ((with_reducible apply lenR_own) ; (focus (apply Own.upTo ; (focus assumption) ; (repeat (first | exact Gr.refl _ _ | assumption | with_reducible refine Gr.trans ?_ (Gr.boxN _ _ _ _ _) | refine Gr.setNew ?_ (by first | exact Nat.le_refl _ | (simp only [newB_length, List.length_set, List.length_append, List.length_singleton]; omega) | omega) _ | refine Gr.addN ?_ _ | refine Gr.newN ?_ _ _ _ | exact Gr.trans (by assumption) (by assumption) | refine Gr.trans ?_ (by assumption) | refine Gr.trans (by assumption) ?_)) ; (first | done | fail))))
      | ((with_reducible apply rowsR_own) ; (focus assumption))
      | ((with_reducible apply rowsR_own) ; (focus (apply Own.upTo ; (focus assumption) ; (repeat (first | exact Gr.refl _ _ | assumption | with_reducible refine Gr.trans ?_ (Gr.boxN _ _ _ _ _) | refine Gr.setNew ?_ (by first | exact Nat.le_refl _ | (simp only [newB_length, List.length_set, List.length_append, List.length_singleton]; omega) | omega) _ | refine Gr.addN ?_ _ | refine Gr.newN ?_ _ _ _ | exact Gr.trans (by assumption) (by assumption) | refine Gr.trans ?_ (by assumption) | refine Gr.trans (by assumption) ?_)) ; (first | done | fail))))
      | ((with_reducible apply ia_own) ; (focus assumption))
      | ((with_reducible apply ia_own) ; (focus (apply Own.upTo ; (focus assumption) ; (repeat (first | exact Gr.refl _ _ | assumption | with_reducible refine Gr.trans ?_ (Gr.boxN _ _ _ _ _) | refine Gr.setNew ?_ (by first | exact Nat.le_refl _ | (simp only [newB_length, List.length_set, List.length_append, List.length_singleton]; omega) | omega) _ | refine Gr.addN ?_ _ | refine Gr.newN ?_ _ _ _ | exact Gr.trans (by assumption) (by assumption) | refine Gr.trans ?_ (by assumption) | refine Gr.trans (by assumption) ?_)) ; (first | done | fail))))
      | (with_reducible refine ia_sl ?_ ?_)
      | (with_reducible refine IaW.of ?_)
      | (with_reducible refine SliceW.of ?_)
      | ((with_reducible apply AppC.raw) ; (focus assumption))
      | (with_reducible refine AppC.frz ?_)
      | (with_reducible refine EqnW.of ?_)
      | (with_reducible refine CopyW.of ?_)
      | ((with_reducible apply out_own) ; (focus assumption))
      | (with_reducible refine OutW.of ?_)
      | ((with_reducible apply NOut.own) ; (focus assumption))
      | (with_reducible refine NOut.lit ?_)
      | (with_reducible refine nthR_z ?_)
      | ((with_reducible apply nthR_left) ; (focus (first | omega | (simp only [List.length_append, List.length_cons, List.length_nil, List.length_take, List.length_drop, bs_length]; omega))))
      | (with_reducible refine lenR_sl ?_)
      | (with_reducible refine lenR_nils ?_)
      | (with_reducible refine lenR_rsl ?_)
      | (with_reducible refine rowsR_sl ?_)
      | (with_reducible refine rowsR_nils ?_)
      | (with_reducible refine rowsR_rsl ?_)
      | (with_reducible refine lenR_slx ?_)
      | (with_reducible refine rowsR_slx ?_)
      | (with_reducible refine appendR_slx ?_ ?_ ?_)
      | ((with_reducible apply bytesR_intro) ; (focus (first | rfl | (simp only [bs_take, bs_drop, bs_append]; rfl))))
      | ((with_reducible apply nthR_bs) ; (focus (first | omega | (simp only [List.length_append, List.length_cons, List.length_nil, List.length_take, List.length_drop, bs_length]; omega))))
      | (with_reducible intro _)
      ))
      )
    all_goals (conv => whnf)
    all_goals (try dsimp only)
    exact ret_same rfl
  · have h6 := cl_six ho
    have hb := cn_bd c
    rw [show clE c = 0 from by rw [clE, ho]; rfl]
    by_cases hk : 0 ≤ k ∧ k < cn c
    · have e : ceOk c k = true := by rw [ceOk, ho, decide_eq_true hk]; rfl
      obtain ⟨q1, q2, q3⟩ := cof_bd e
      rw [ceV, ceE, e]
      simp only [if_true]
      repeat' (first
        | ((with_reducible apply Gr.side) ; with_reducible assumption)
        | ((with_reducible apply Gr.side) ; (repeat (first | exact Gr.refl _ _ | assumption | with_reducible refine Gr.trans ?_ (Gr.boxN _ _ _ _ _) | refine Gr.setNew ?_ (by first | exact Nat.le_refl _ | (simp only [newB_length, List.length_set, List.length_append, List.length_singleton]; omega) | omega) _ | refine Gr.addN ?_ _ | refine Gr.newN ?_ _ _ _ | exact Gr.trans (by assumption) (by assumption) | refine Gr.trans ?_ (by assumption) | refine Gr.trans (by assumption) ?_)) ; (first | done | fail))
        | ((with_reducible refine Side.intro ?_) <;> (first
        | with_reducible rfl
        | omega
        | assumption
        | exact Nat.le_of_ble_eq_true rfl
        | (simp only [bs_length, List.length_append, List.length_cons, List.length_nil, List.length_take, List.length_drop, List.length_set, List.length_replicate]; omega)
        | exact .inl (by omega)
        | exact .inr (.inl ⟨rfl, by (simp only [bs_length, List.length_append, List.length_cons, List.length_nil, List.length_take, List.length_drop, List.length_set, List.length_replicate]; omega)⟩)
        | exact Ref.ok_refl _ _
        | (simp only [List.append_nil, List.nil_append, List.map_nil]; first | exact List.nodup_nil | exact nodup_bid1 _ | exact nodup_bid2 (by assumption))
        | ((first | refine fresh_tup ?_ | skip); (repeat (first |  exact FreshA.sl _ _ FreshA_bs | exact FreshA.sl _ _ FreshA_is | exact FreshA.nils | exact FreshA.nilp | exact FreshA.int _ _ | exact FreshA.bool _ | exact FreshA.str _ | exact fresh_nil | refine fresh_cons ?_ ?_ | with_reducible refine fresh_aggR ?_ | with_reducible refine fresh_agg ?_ | with_reducible exact fresh_nilA | with_reducible refine fresh_consA ?_ ?_)); done)
        | exact rfl
        | (simp; done)
        ))
        | ((conv => whnf) <;> (first
        | (with_reducible refine and_same ?_)
        | (with_reducible refine and_side ?_ ?_)
        | (with_reducible refine Br.yes rfl ?_)
        | ((with_reducible apply Br.yes) ; (focus omega))
        | ((with_reducible apply Br.no) ; (focus omega))
        | ((with_reducible apply Br.no) ; (focus assumption))
        | ((with_reducible apply Br.yes) ; (focus assumption))
        | ((with_reducible apply Br.yes) ; (focus ((with_reducible refine And.intro ?_ ?_) ; (repeat' (first | with_reducible rfl | exact True.intro | with_reducible refine And.intro ?_ ?_ | omega | assumption)) ; (first | done | fail))))
        | (with_reducible refine Br.mk (fun _ => ?_) (fun _ => ?_))
        | (with_reducible refine Both.mk ?_ ?_)
        | ((with_reducible apply blkAt_intro) ; (focus (first
        | exact rfl
        | ((repeat (first
        | assumption
        | exact get_new
        | exact get_set (by assumption)
        | exact get_set get_new
        | with_reducible apply get_set
        | apply get_set
        | apply get_old
        | (apply get_set_ne; (focus (first | omega | (simp only [newB_length, List.length_set, List.length_append, List.length_singleton, List.length_nil]; omega))))
        )); done)
        )) ; (focus (first | rfl | assumption | omega)) ; (try dsimp only))
        | ((with_reducible apply nthR_dat) ; (focus assumption))
        | ((with_reducible apply nthR_bs1) ; (focus assumption))
        | ((with_reducible apply nthR_is1) ; (focus assumption))
        | ((with_reducible apply appendR_lit) ; (focus (first
        | exact rfl
        | ((repeat (first
        | assumption
        | exact get_new
        | exact get_set (by assumption)
        | exact get_set get_new
        | with_reducible apply get_set
        | apply get_set
        | apply get_old
        | (apply get_set_ne; (focus (first | omega | (simp only [newB_length, List.length_set, List.length_append, List.length_singleton, List.length_nil]; omega))))
        )); done)
        )) ; (focus (first | rfl | assumption)) ; (focus rfl) ; (focus rfl) ; (focus rfl) ; (focus (first | exact Nat.zero_le _ | omega | (simp; done) | (simp; omega))) ; (try dsimp only))
        | (with_reducible refine appendR_nil ?_ ?_)
        | ((with_reducible apply lenR_own) ; (focus assumption))
        | ((with_reducible apply lenR_own) ; (focus (apply Own.upTo ; (focus assumption) ; (repeat (first | exact Gr.refl _ _ | assumption | with_reducible refine Gr.trans ?_ (Gr.boxN _ _ _ _ _) | refine Gr.setNew ?_ (by first | exact Nat.le_refl _ | (simp only [newB_length, List.length_set, List.length_append, List.length_singleton]; omega) | omega) _ | refine Gr.addN ?_ _ | refine Gr.newN ?_ _ _ _ | exact Gr.trans (by assumption) (by assumption) | refine Gr.trans ?_ (by assumption) | refine Gr.trans (by assumption) ?_)) ; (first | done | fail))))
        | ((with_reducible apply rowsR_own) ; (focus assumption))
        | ((with_reducible apply rowsR_own) ; (focus (apply Own.upTo ; (focus assumption) ; (repeat (first | exact Gr.refl _ _ | assumption | with_reducible refine Gr.trans ?_ (Gr.boxN _ _ _ _ _) | refine Gr.setNew ?_ (by first | exact Nat.le_refl _ | (simp only [newB_length, List.length_set, List.length_append, List.length_singleton]; omega) | omega) _ | refine Gr.addN ?_ _ | refine Gr.newN ?_ _ _ _ | exact Gr.trans (by assumption) (by assumption) | refine Gr.trans ?_ (by assumption) | refine Gr.trans (by assumption) ?_)) ; (first | done | fail))))
        | ((with_reducible apply ia_own) ; (focus assumption))
        | ((with_reducible apply ia_own) ; (focus (apply Own.upTo ; (focus assumption) ; (repeat (first | exact Gr.refl _ _ | assumption | with_reducible refine Gr.trans ?_ (Gr.boxN _ _ _ _ _) | refine Gr.setNew ?_ (by first | exact Nat.le_refl _ | (simp only [newB_length, List.length_set, List.length_append, List.length_singleton]; omega) | omega) _ | refine Gr.addN ?_ _ | refine Gr.newN ?_ _ _ _ | exact Gr.trans (by assumption) (by assumption) | refine Gr.trans ?_ (by assumption) | refine Gr.trans (by assumption) ?_)) ; (first | done | fail))))
        | (with_reducible refine ia_sl ?_ ?_)
        | (with_reducible refine IaW.of ?_)
        | (with_reducible refine SliceW.of ?_)
        | ((with_reducible apply AppC.raw) ; (focus assumption))
        | (with_reducible refine AppC.frz ?_)
        | (with_reducible refine EqnW.of ?_)
        | (with_reducible refine CopyW.of ?_)
        | ((with_reducible apply out_own) ; (focus assumption))
        | (with_reducible refine OutW.of ?_)
        | ((with_reducible apply NOut.own) ; (focus assumption))
        | (with_reducible refine NOut.lit ?_)
        | (with_reducible refine nthR_z ?_)
        | ((with_reducible apply nthR_left) ; (focus (first | omega | (simp only [List.length_append, List.length_cons, List.length_nil, List.length_take, List.length_drop, bs_length]; omega))))
        | (with_reducible refine lenR_sl ?_)
        | (with_reducible refine lenR_nils ?_)
        | (with_reducible refine lenR_rsl ?_)
        | (with_reducible refine rowsR_sl ?_)
        | (with_reducible refine rowsR_nils ?_)
        | (with_reducible refine rowsR_rsl ?_)
        | (with_reducible refine lenR_slx ?_)
        | (with_reducible refine rowsR_slx ?_)
        | (with_reducible refine appendR_slx ?_ ?_ ?_)
        | ((with_reducible apply bytesR_intro) ; (focus (first | rfl | (simp only [bs_take, bs_drop, bs_append]; rfl))))
        | ((with_reducible apply nthR_bs) ; (focus (first | omega | (simp only [List.length_append, List.length_cons, List.length_nil, List.length_take, List.length_drop, bs_length]; omega))))
        | (with_reducible intro _)
        ))
        )
      all_goals (conv => whnf)
      all_goals (try dsimp only)
      refine RWords_call c fun H2 hg2 => ?_
      have hm : cw c * k = k * cw c := Int.mul_comm _ _
      repeat' (first
        | ((with_reducible apply Gr.side) ; with_reducible assumption)
        | ((with_reducible apply Gr.side) ; (repeat (first | exact Gr.refl _ _ | assumption | with_reducible refine Gr.trans ?_ (Gr.boxN _ _ _ _ _) | refine Gr.setNew ?_ (by first | exact Nat.le_refl _ | (simp only [newB_length, List.length_set, List.length_append, List.length_singleton]; omega) | omega) _ | refine Gr.addN ?_ _ | refine Gr.newN ?_ _ _ _ | exact Gr.trans (by assumption) (by assumption) | refine Gr.trans ?_ (by assumption) | refine Gr.trans (by assumption) ?_)) ; (first | done | fail))
        | ((with_reducible refine Side.intro ?_) <;> (first
        | with_reducible rfl
        | omega
        | assumption
        | exact Nat.le_of_ble_eq_true rfl
        | (simp only [bs_length, List.length_append, List.length_cons, List.length_nil, List.length_take, List.length_drop, List.length_set, List.length_replicate]; omega)
        | exact .inl (by omega)
        | exact .inr (.inl ⟨rfl, by (simp only [bs_length, List.length_append, List.length_cons, List.length_nil, List.length_take, List.length_drop, List.length_set, List.length_replicate]; omega)⟩)
        | exact Ref.ok_refl _ _
        | (simp only [List.append_nil, List.nil_append, List.map_nil]; first | exact List.nodup_nil | exact nodup_bid1 _ | exact nodup_bid2 (by assumption))
        | ((first | refine fresh_tup ?_ | skip); (repeat (first |  exact FreshA.sl _ _ FreshA_bs | exact FreshA.sl _ _ FreshA_is | exact FreshA.nils | exact FreshA.nilp | exact FreshA.int _ _ | exact FreshA.bool _ | exact FreshA.str _ | exact fresh_nil | refine fresh_cons ?_ ?_ | with_reducible refine fresh_aggR ?_ | with_reducible refine fresh_agg ?_ | with_reducible exact fresh_nilA | with_reducible refine fresh_consA ?_ ?_)); done)
        | exact rfl
        | (simp; done)
        ))
        | ((conv => whnf) <;> (first
        | (with_reducible refine and_same ?_)
        | (with_reducible refine and_side ?_ ?_)
        | (with_reducible refine Br.yes rfl ?_)
        | ((with_reducible apply Br.yes) ; (focus omega))
        | ((with_reducible apply Br.no) ; (focus omega))
        | ((with_reducible apply Br.no) ; (focus assumption))
        | ((with_reducible apply Br.yes) ; (focus assumption))
        | ((with_reducible apply Br.yes) ; (focus ((with_reducible refine And.intro ?_ ?_) ; (repeat' (first | with_reducible rfl | exact True.intro | with_reducible refine And.intro ?_ ?_ | omega | assumption)) ; (first | done | fail))))
        | (with_reducible refine Br.mk (fun _ => ?_) (fun _ => ?_))
        | (with_reducible refine Both.mk ?_ ?_)
        | ((with_reducible apply blkAt_intro) ; (focus (first
        | exact rfl
        | ((repeat (first
        | assumption
        | exact get_new
        | exact get_set (by assumption)
        | exact get_set get_new
        | with_reducible apply get_set
        | apply get_set
        | apply get_old
        | (apply get_set_ne; (focus (first | omega | (simp only [newB_length, List.length_set, List.length_append, List.length_singleton, List.length_nil]; omega))))
        )); done)
        )) ; (focus (first | rfl | assumption | omega)) ; (try dsimp only))
        | ((with_reducible apply nthR_dat) ; (focus assumption))
        | ((with_reducible apply nthR_bs1) ; (focus assumption))
        | ((with_reducible apply nthR_is1) ; (focus assumption))
        | ((with_reducible apply appendR_lit) ; (focus (first
        | exact rfl
        | ((repeat (first
        | assumption
        | exact get_new
        | exact get_set (by assumption)
        | exact get_set get_new
        | with_reducible apply get_set
        | apply get_set
        | apply get_old
        | (apply get_set_ne; (focus (first | omega | (simp only [newB_length, List.length_set, List.length_append, List.length_singleton, List.length_nil]; omega))))
        )); done)
        )) ; (focus (first | rfl | assumption)) ; (focus rfl) ; (focus rfl) ; (focus rfl) ; (focus (first | exact Nat.zero_le _ | omega | (simp; done) | (simp; omega))) ; (try dsimp only))
        | (with_reducible refine appendR_nil ?_ ?_)
        | ((with_reducible apply lenR_own) ; (focus assumption))
        | ((with_reducible apply lenR_own) ; (focus (apply Own.upTo ; (focus assumption) ; (repeat (first | exact Gr.refl _ _ | assumption | with_reducible refine Gr.trans ?_ (Gr.boxN _ _ _ _ _) | refine Gr.setNew ?_ (by first | exact Nat.le_refl _ | (simp only [newB_length, List.length_set, List.length_append, List.length_singleton]; omega) | omega) _ | refine Gr.addN ?_ _ | refine Gr.newN ?_ _ _ _ | exact Gr.trans (by assumption) (by assumption) | refine Gr.trans ?_ (by assumption) | refine Gr.trans (by assumption) ?_)) ; (first | done | fail))))
        | ((with_reducible apply rowsR_own) ; (focus assumption))
        | ((with_reducible apply rowsR_own) ; (focus (apply Own.upTo ; (focus assumption) ; (repeat (first | exact Gr.refl _ _ | assumption | with_reducible refine Gr.trans ?_ (Gr.boxN _ _ _ _ _) | refine Gr.setNew ?_ (by first | exact Nat.le_refl _ | (simp only [newB_length, List.length_set, List.length_append, List.length_singleton]; omega) | omega) _ | refine Gr.addN ?_ _ | refine Gr.newN ?_ _ _ _ | exact Gr.trans (by assumption) (by assumption) | refine Gr.trans ?_ (by assumption) | refine Gr.trans (by assumption) ?_)) ; (first | done | fail))))
        | ((with_reducible apply ia_own) ; (focus assumption))
        | ((with_reducible apply ia_own) ; (focus (apply Own.upTo ; (focus assumption) ; (repeat (first | exact Gr.refl _ _ | assumption | with_reducible refine Gr.trans ?_ (Gr.boxN _ _ _ _ _) | refine Gr.setNew ?_ (by first | exact Nat.le_refl _ | (simp only [newB_length, List.length_set, List.length_append, List.length_singleton]; omega) | omega) _ | refine Gr.addN ?_ _ | refine Gr.newN ?_ _ _ _ | exact Gr.trans (by assumption) (by assumption) | refine Gr.trans ?_ (by assumption) | refine Gr.trans (by assumption) ?_)) ; (first | done | fail))))
        | (with_reducible refine ia_sl ?_ ?_)
        | (with_reducible refine IaW.of ?_)
        | (with_reducible refine SliceW.of ?_)
        | ((with_reducible apply AppC.raw) ; (focus assumption))
        | (with_reducible refine AppC.frz ?_)
        | (with_reducible refine EqnW.of ?_)
        | (with_reducible refine CopyW.of ?_)
        | ((with_reducible apply out_own) ; (focus assumption))
        | (with_reducible refine OutW.of ?_)
        | ((with_reducible apply NOut.own) ; (focus assumption))
        | (with_reducible refine NOut.lit ?_)
        | (with_reducible refine nthR_z ?_)
        | ((with_reducible apply nthR_left) ; (focus (first | omega | (simp only [List.length_append, List.length_cons, List.length_nil, List.length_take, List.length_drop, bs_length]; omega))))
        | (with_reducible refine lenR_sl ?_)
        | (with_reducible refine lenR_nils ?_)
        | (with_reducible refine lenR_rsl ?_)
        | (with_reducible refine rowsR_sl ?_)
        | (with_reducible refine rowsR_nils ?_)
        | (with_reducible refine rowsR_rsl ?_)
        | (with_reducible refine lenR_slx ?_)
        | (with_reducible refine rowsR_slx ?_)
        | (with_reducible refine appendR_slx ?_ ?_ ?_)
        | ((with_reducible apply bytesR_intro) ; (focus (first | rfl | (simp only [bs_take, bs_drop, bs_append]; rfl))))
        | ((with_reducible apply nthR_bs) ; (focus (first | omega | (simp only [List.length_append, List.length_cons, List.length_nil, List.length_take, List.length_drop, bs_length]; omega))))
        | (with_reducible intro _)
        ))
        )
      all_goals (conv => whnf)
      all_goals (try dsimp only)
      rw [hm]
      exact ret_same rfl
    · have e : ceOk c k = false := by rw [ceOk, ho, decide_eq_false hk]; rfl
      rw [ceV, ceE, e]
      repeat' (first
        | ((with_reducible apply Gr.side) ; with_reducible assumption)
        | ((with_reducible apply Gr.side) ; (repeat (first | exact Gr.refl _ _ | assumption | with_reducible refine Gr.trans ?_ (Gr.boxN _ _ _ _ _) | refine Gr.setNew ?_ (by first | exact Nat.le_refl _ | (simp only [newB_length, List.length_set, List.length_append, List.length_singleton]; omega) | omega) _ | refine Gr.addN ?_ _ | refine Gr.newN ?_ _ _ _ | exact Gr.trans (by assumption) (by assumption) | refine Gr.trans ?_ (by assumption) | refine Gr.trans (by assumption) ?_)) ; (first | done | fail))
        | ((with_reducible refine Side.intro ?_) <;> (first
        | with_reducible rfl
        | omega
        | assumption
        | exact Nat.le_of_ble_eq_true rfl
        | (simp only [bs_length, List.length_append, List.length_cons, List.length_nil, List.length_take, List.length_drop, List.length_set, List.length_replicate]; omega)
        | exact .inl (by omega)
        | exact .inr (.inl ⟨rfl, by (simp only [bs_length, List.length_append, List.length_cons, List.length_nil, List.length_take, List.length_drop, List.length_set, List.length_replicate]; omega)⟩)
        | exact Ref.ok_refl _ _
        | (simp only [List.append_nil, List.nil_append, List.map_nil]; first | exact List.nodup_nil | exact nodup_bid1 _ | exact nodup_bid2 (by assumption))
        | ((first | refine fresh_tup ?_ | skip); (repeat (first |  exact FreshA.sl _ _ FreshA_bs | exact FreshA.sl _ _ FreshA_is | exact FreshA.nils | exact FreshA.nilp | exact FreshA.int _ _ | exact FreshA.bool _ | exact FreshA.str _ | exact fresh_nil | refine fresh_cons ?_ ?_ | with_reducible refine fresh_aggR ?_ | with_reducible refine fresh_agg ?_ | with_reducible exact fresh_nilA | with_reducible refine fresh_consA ?_ ?_)); done)
        | exact rfl
        | (simp; done)
        ))
        | ((conv => whnf) <;> (first
        | (with_reducible refine and_same ?_)
        | (with_reducible refine and_side ?_ ?_)
        | (with_reducible refine Br.yes rfl ?_)
        | ((with_reducible apply Br.yes) ; (focus omega))
        | ((with_reducible apply Br.no) ; (focus omega))
        | ((with_reducible apply Br.no) ; (focus assumption))
        | ((with_reducible apply Br.yes) ; (focus assumption))
        | ((with_reducible apply Br.yes) ; (focus ((with_reducible refine And.intro ?_ ?_) ; (repeat' (first | with_reducible rfl | exact True.intro | with_reducible refine And.intro ?_ ?_ | omega | assumption)) ; (first | done | fail))))
        | (with_reducible refine Br.mk (fun _ => ?_) (fun _ => ?_))
        | (with_reducible refine Both.mk ?_ ?_)
        | ((with_reducible apply blkAt_intro) ; (focus (first
        | exact rfl
        | ((repeat (first
        | assumption
        | exact get_new
        | exact get_set (by assumption)
        | exact get_set get_new
        | with_reducible apply get_set
        | apply get_set
        | apply get_old
        | (apply get_set_ne; (focus (first | omega | (simp only [newB_length, List.length_set, List.length_append, List.length_singleton, List.length_nil]; omega))))
        )); done)
        )) ; (focus (first | rfl | assumption | omega)) ; (try dsimp only))
        | ((with_reducible apply nthR_dat) ; (focus assumption))
        | ((with_reducible apply nthR_bs1) ; (focus assumption))
        | ((with_reducible apply nthR_is1) ; (focus assumption))
        | ((with_reducible apply appendR_lit) ; (focus (first
        | exact rfl
        | ((repeat (first
        | assumption
        | exact get_new
        | exact get_set (by assumption)
        | exact get_set get_new
        | with_reducible apply get_set
        | apply get_set
        | apply get_old
        | (apply get_set_ne; (focus (first | omega | (simp only [newB_length, List.length_set, List.length_append, List.length_singleton, List.length_nil]; omega))))
        )); done)
        )) ; (focus (first | rfl | assumption)) ; (focus rfl) ; (focus rfl) ; (focus rfl) ; (focus (first | exact Nat.zero_le _ | omega | (simp; done) | (simp; omega))) ; (try dsimp only))
        | (with_reducible refine appendR_nil ?_ ?_)
        | ((with_reducible apply lenR_own) ; (focus assumption))
        | ((with_reducible apply lenR_own) ; (focus (apply Own.upTo ; (focus assumption) ; (repeat (first | exact Gr.refl _ _ | assumption | with_reducible refine Gr.trans ?_ (Gr.boxN _ _ _ _ _) | refine Gr.setNew ?_ (by first | exact Nat.le_refl _ | (simp only [newB_length, List.length_set, List.length_append, List.length_singleton]; omega) | omega) _ | refine Gr.addN ?_ _ | refine Gr.newN ?_ _ _ _ | exact Gr.trans (by assumption) (by assumption) | refine Gr.trans ?_ (by assumption) | refine Gr.trans (by assumption) ?_)) ; (first | done | fail))))
        | ((with_reducible apply rowsR_own) ; (focus assumption))
        | ((with_reducible apply rowsR_own) ; (focus (apply Own.upTo ; (focus assumption) ; (repeat (first | exact Gr.refl _ _ | assumption | with_reducible refine Gr.trans ?_ (Gr.boxN _ _ _ _ _) | refine Gr.setNew ?_ (by first | exact Nat.le_refl _ | (simp only [newB_length, List.length_set, List.length_append, List.length_singleton]; omega) | omega) _ | refine Gr.addN ?_ _ | refine Gr.newN ?_ _ _ _ | exact Gr.trans (by assumption) (by assumption) | refine Gr.trans ?_ (by assumption) | refine Gr.trans (by assumption) ?_)) ; (first | done | fail))))
        | ((with_reducible apply ia_own) ; (focus assumption))
        | ((with_reducible apply ia_own) ; (focus (apply Own.upTo ; (focus assumption) ; (repeat (first | exact Gr.refl _ _ | assumption | with_reducible refine Gr.trans ?_ (Gr.boxN _ _ _ _ _) | refine Gr.setNew ?_ (by first | exact Nat.le_refl _ | (simp only [newB_length, List.length_set, List.length_append, List.length_singleton]; omega) | omega) _ | refine Gr.addN ?_ _ | refine Gr.newN ?_ _ _ _ | exact Gr.trans (by assumption) (by assumption) | refine Gr.trans ?_ (by assumption) | refine Gr.trans (by assumption) ?_)) ; (first | done | fail))))
        | (with_reducible refine ia_sl ?_ ?_)
        | (with_reducible refine IaW.of ?_)
        | (with_reducible refine SliceW.of ?_)
        | ((with_reducible apply AppC.raw) ; (focus assumption))
        | (with_reducible refine AppC.frz ?_)
        | (with_reducible refine EqnW.of ?_)
        | (with_reducible refine CopyW.of ?_)
        | ((with_reducible apply out_own) ; (focus assumption))
        | (with_reducible refine OutW.of ?_)
        | ((with_reducible apply NOut.own) ; (focus assumption))
        | (with_reducible refine NOut.lit ?_)
        | (with_reducible refine nthR_z ?_)
        | ((with_reducible apply nthR_left) ; (focus (first | omega | (simp only [List.length_append, List.length_cons, List.length_nil, List.length_take, List.length_drop, bs_length]; omega))))
        | (with_reducible refine lenR_sl ?_)
        | (with_reducible refine lenR_nils ?_)
        | (with_reducible refine lenR_rsl ?_)
        | (with_reducible refine rowsR_sl ?_)
        | (with_reducible refine rowsR_nils ?_)
        | (with_reducible refine rowsR_rsl ?_)
        | (with_reducible refine lenR_slx ?_)
        | (with_reducible refine rowsR_slx ?_)
        | (with_reducible refine appendR_slx ?_ ?_ ?_)
        | ((with_reducible apply bytesR_intro) ; (focus (first | rfl | (simp only [bs_take, bs_drop, bs_append]; rfl))))
        | ((with_reducible apply nthR_bs) ; (focus (first | omega | (simp only [List.length_append, List.length_cons, List.length_nil, List.length_take, List.length_drop, bs_length]; omega))))
        | (with_reducible intro _)
        ))
        )
      all_goals (conv => whnf)
      all_goals (try dsimp only)
      all_goals first
        | omega
        | exact ret_same rfl
theorem RCell_call (c k : Int) {σ : AH} {Q : AV → AH → Prop} (h : ∀ σ', Gr σ σ' none → Q (.tup [.int .i64 (ceV c k), .int .i64 (ceE c k)]) σ') : CallS Try.prog F.joistref12_Cell [.int .i64 c, .int .i64 k] σ Q :=
  call_two (RCell_ok c k) (.cons (.int _ _ _) (.cons (.int _ _ _) .nil)) rfl rfl h
theorem RBits_ok (c : Int) (l : List Int) (hs : l.length ≤ 4611686018) : AOKn Try.prog F.joistref15_Bits [.int .i64 c, .sl 1 (is l) false] fun y => y = .tup [.int .i64 (btV c l), .int .i64 (btEr c l)] := by
  have hn := is_length l
  refine AOKn.by_steps mixed fc_joistref15_Bits_ok (by simp [fc_joistref15_Bits]) ?_
  repeat' (first
    | ((with_reducible apply Gr.side) ; with_reducible assumption)
    | ((with_reducible apply Gr.side) ; (repeat (first | exact Gr.refl _ _ | assumption | with_reducible refine Gr.trans ?_ (Gr.boxN _ _ _ _ _) | refine Gr.setNew ?_ (by first | exact Nat.le_refl _ | (simp only [newB_length, List.length_set, List.length_append, List.length_singleton]; omega) | omega) _ | refine Gr.addN ?_ _ | refine Gr.newN ?_ _ _ _ | exact Gr.trans (by assumption) (by assumption) | refine Gr.trans ?_ (by assumption) | refine Gr.trans (by assumption) ?_)) ; (first | done | fail))
    | ((with_reducible refine Side.intro ?_) <;> (first
    | with_reducible rfl
    | omega
    | assumption
    | exact Nat.le_of_ble_eq_true rfl
    | (simp only [bs_length, List.length_append, List.length_cons, List.length_nil, List.length_take, List.length_drop, List.length_set, List.length_replicate]; omega)
    | exact .inl (by omega)
    | exact .inr (.inl ⟨rfl, by (simp only [bs_length, List.length_append, List.length_cons, List.length_nil, List.length_take, List.length_drop, List.length_set, List.length_replicate]; omega)⟩)
    | exact Ref.ok_refl _ _
    | (simp only [List.append_nil, List.nil_append, List.map_nil]; first | exact List.nodup_nil | exact nodup_bid1 _ | exact nodup_bid2 (by assumption))
    | ((first | refine fresh_tup ?_ | skip); (repeat (first |  exact FreshA.sl _ _ FreshA_bs | exact FreshA.sl _ _ FreshA_is | exact FreshA.nils | exact FreshA.nilp | exact FreshA.int _ _ | exact FreshA.bool _ | exact FreshA.str _ | exact fresh_nil | refine fresh_cons ?_ ?_ | with_reducible refine fresh_aggR ?_ | with_reducible refine fresh_agg ?_ | with_reducible exact fresh_nilA | with_reducible refine fresh_consA ?_ ?_)); done)
    | exact rfl
    | (simp; done)
    ))
    | ((conv => whnf) <;> (first
    | (with_reducible refine and_same ?_)
    | (with_reducible refine and_side ?_ ?_)
    | (with_reducible refine Br.yes rfl ?_)
    | ((with_reducible apply Br.yes) ; (focus omega))
    | ((with_reducible apply Br.no) ; (focus omega))
    | ((with_reducible apply Br.no) ; (focus assumption))
    | ((with_reducible apply Br.yes) ; (focus assumption))
    | ((with_reducible apply Br.yes) ; (focus ((with_reducible refine And.intro ?_ ?_) ; (repeat' (first | with_reducible rfl | exact True.intro | with_reducible refine And.intro ?_ ?_ | omega | assumption)) ; (first | done | fail))))
    | (with_reducible refine Br.mk (fun _ => ?_) (fun _ => ?_))
    | (with_reducible refine Both.mk ?_ ?_)
    | ((with_reducible apply blkAt_intro) ; (focus (first
    | exact rfl
    | ((repeat (first
    | assumption
    | exact get_new
    | exact get_set (by assumption)
    | exact get_set get_new
    | with_reducible apply get_set
    | apply get_set
    | apply get_old
    | (apply get_set_ne; (focus (first | omega | (simp only [newB_length, List.length_set, List.length_append, List.length_singleton, List.length_nil]; omega))))
    )); done)
    )) ; (focus (first | rfl | assumption | omega)) ; (try dsimp only))
    | ((with_reducible apply nthR_dat) ; (focus assumption))
    | ((with_reducible apply nthR_bs1) ; (focus assumption))
    | ((with_reducible apply nthR_is1) ; (focus assumption))
    | ((with_reducible apply appendR_lit) ; (focus (first
    | exact rfl
    | ((repeat (first
    | assumption
    | exact get_new
    | exact get_set (by assumption)
    | exact get_set get_new
    | with_reducible apply get_set
    | apply get_set
    | apply get_old
    | (apply get_set_ne; (focus (first | omega | (simp only [newB_length, List.length_set, List.length_append, List.length_singleton, List.length_nil]; omega))))
    )); done)
    )) ; (focus (first | rfl | assumption)) ; (focus rfl) ; (focus rfl) ; (focus rfl) ; (focus (first | exact Nat.zero_le _ | omega | (simp; done) | (simp; omega))) ; (try dsimp only))
    | (with_reducible refine appendR_nil ?_ ?_)
    | ((with_reducible apply lenR_own) ; (focus assumption))
    | ((with_reducible apply lenR_own) ; (focus (apply Own.upTo ; (focus assumption) ; (repeat (first | exact Gr.refl _ _ | assumption | with_reducible refine Gr.trans ?_ (Gr.boxN _ _ _ _ _) | refine Gr.setNew ?_ (by first | exact Nat.le_refl _ | (simp only [newB_length, List.length_set, List.length_append, List.length_singleton]; omega) | omega) _ | refine Gr.addN ?_ _ | refine Gr.newN ?_ _ _ _ | exact Gr.trans (by assumption) (by assumption) | refine Gr.trans ?_ (by assumption) | refine Gr.trans (by assumption) ?_)) ; (first | done | fail))))
    | ((with_reducible apply rowsR_own) ; (focus assumption))
    | ((with_reducible apply rowsR_own) ; (focus (apply Own.upTo ; (focus assumption) ; (repeat (first | exact Gr.refl _ _ | assumption | with_reducible refine Gr.trans ?_ (Gr.boxN _ _ _ _ _) | refine Gr.setNew ?_ (by first | exact Nat.le_refl _ | (simp only [newB_length, List.length_set, List.length_append, List.length_singleton]; omega) | omega) _ | refine Gr.addN ?_ _ | refine Gr.newN ?_ _ _ _ | exact Gr.trans (by assumption) (by assumption) | refine Gr.trans ?_ (by assumption) | refine Gr.trans (by assumption) ?_)) ; (first | done | fail))))
    | ((with_reducible apply ia_own) ; (focus assumption))
    | ((with_reducible apply ia_own) ; (focus (apply Own.upTo ; (focus assumption) ; (repeat (first | exact Gr.refl _ _ | assumption | with_reducible refine Gr.trans ?_ (Gr.boxN _ _ _ _ _) | refine Gr.setNew ?_ (by first | exact Nat.le_refl _ | (simp only [newB_length, List.length_set, List.length_append, List.length_singleton]; omega) | omega) _ | refine Gr.addN ?_ _ | refine Gr.newN ?_ _ _ _ | exact Gr.trans (by assumption) (by assumption) | refine Gr.trans ?_ (by assumption) | refine Gr.trans (by assumption) ?_)) ; (first | done | fail))))
    | (with_reducible refine ia_sl ?_ ?_)
    | (with_reducible refine IaW.of ?_)
    | (with_reducible refine SliceW.of ?_)
    | ((with_reducible apply AppC.raw) ; (focus assumption))
    | (with_reducible refine AppC.frz ?_)
    | (with_reducible refine EqnW.of ?_)
    | (with_reducible refine CopyW.of ?_)
    | ((with_reducible apply out_own) ; (focus assumption))
    | (with_reducible refine OutW.of ?_)
    | ((with_reducible apply NOut.own) ; (focus assumption))
    | (with_reducible refine NOut.lit ?_)
    | (with_reducible refine nthR_z ?_)
    | ((with_reducible apply nthR_left) ; (focus (first | omega | (simp only [List.length_append, List.length_cons, List.length_nil, List.length_take, List.length_drop, bs_length]; omega))))
    | (with_reducible refine lenR_sl ?_)
    | (with_reducible refine lenR_nils ?_)
    | (with_reducible refine lenR_rsl ?_)
    | (with_reducible refine rowsR_sl ?_)
    | (with_reducible refine rowsR_nils ?_)
    | (with_reducible refine rowsR_rsl ?_)
    | (with_reducible refine lenR_slx ?_)
    | (with_reducible refine rowsR_slx ?_)
    | (with_reducible refine appendR_slx ?_ ?_ ?_)
    | ((with_reducible apply bytesR_intro) ; (focus (first | rfl | (simp only [bs_take, bs_drop, bs_append]; rfl))))
    | ((with_reducible apply nthR_bs) ; (focus (first | omega | (simp only [List.length_append, List.length_cons, List.length_nil, List.length_take, List.length_drop, bs_length]; omega))))
    | (with_reducible intro _)
    ))
    )
  all_goals (conv => whnf)
  all_goals (try dsimp only)
  refine RCells_call c fun H1 hg1 => ?_
  cases ho : clOk c
  · have e : btOk c l = false := by rw [btOk, ho]; rfl
    rw [btV, btEr, e, show clE c = 1 from by rw [clE, ho]; rfl]
    repeat' (first
      | ((with_reducible apply Gr.side) ; with_reducible assumption)
      | ((with_reducible apply Gr.side) ; (repeat (first | exact Gr.refl _ _ | assumption | with_reducible refine Gr.trans ?_ (Gr.boxN _ _ _ _ _) | refine Gr.setNew ?_ (by first | exact Nat.le_refl _ | (simp only [newB_length, List.length_set, List.length_append, List.length_singleton]; omega) | omega) _ | refine Gr.addN ?_ _ | refine Gr.newN ?_ _ _ _ | exact Gr.trans (by assumption) (by assumption) | refine Gr.trans ?_ (by assumption) | refine Gr.trans (by assumption) ?_)) ; (first | done | fail))
      | ((with_reducible refine Side.intro ?_) <;> (first
      | with_reducible rfl
      | omega
      | assumption
      | exact Nat.le_of_ble_eq_true rfl
      | (simp only [bs_length, List.length_append, List.length_cons, List.length_nil, List.length_take, List.length_drop, List.length_set, List.length_replicate]; omega)
      | exact .inl (by omega)
      | exact .inr (.inl ⟨rfl, by (simp only [bs_length, List.length_append, List.length_cons, List.length_nil, List.length_take, List.length_drop, List.length_set, List.length_replicate]; omega)⟩)
      | exact Ref.ok_refl _ _
      | (simp only [List.append_nil, List.nil_append, List.map_nil]; first | exact List.nodup_nil | exact nodup_bid1 _ | exact nodup_bid2 (by assumption))
      | ((first | refine fresh_tup ?_ | skip); (repeat (first |  exact FreshA.sl _ _ FreshA_bs | exact FreshA.sl _ _ FreshA_is | exact FreshA.nils | exact FreshA.nilp | exact FreshA.int _ _ | exact FreshA.bool _ | exact FreshA.str _ | exact fresh_nil | refine fresh_cons ?_ ?_ | with_reducible refine fresh_aggR ?_ | with_reducible refine fresh_agg ?_ | with_reducible exact fresh_nilA | with_reducible refine fresh_consA ?_ ?_)); done)
      | exact rfl
      | (simp; done)
      ))
      | ((conv => whnf) <;> (first
      | (with_reducible refine and_same ?_)
      | (with_reducible refine and_side ?_ ?_)
      | (with_reducible refine Br.yes rfl ?_)
      | ((with_reducible apply Br.yes) ; (focus omega))
      | ((with_reducible apply Br.no) ; (focus omega))
      | ((with_reducible apply Br.no) ; (focus assumption))
      | ((with_reducible apply Br.yes) ; (focus assumption))
      | ((with_reducible apply Br.yes) ; (focus ((with_reducible refine And.intro ?_ ?_) ; (repeat' (first | with_reducible rfl | exact True.intro | with_reducible refine And.intro ?_ ?_ | omega | assumption)) ; (first | done | fail))))
      | (with_reducible refine Br.mk (fun _ => ?_) (fun _ => ?_))
      | (with_reducible refine Both.mk ?_ ?_)
      | ((with_reducible apply blkAt_intro) ; (focus (first
      | exact rfl
      | ((repeat (first
      | assumption
      | exact get_new
      | exact get_set (by assumption)
      | exact get_set get_new
      | with_reducible apply get_set
      | apply get_set
      | apply get_old
      | (apply get_set_ne; (focus (first | omega | (simp only [newB_length, List.length_set, List.length_append, List.length_singleton, List.length_nil]; omega))))
      )); done)
      )) ; (focus (first | rfl | assumption | omega)) ; (try dsimp only))
      | ((with_reducible apply nthR_dat) ; (focus assumption))
      | ((with_reducible apply nthR_bs1) ; (focus assumption))
      | ((with_reducible apply nthR_is1) ; (focus assumption))
      | ((with_reducible apply appendR_lit) ; (focus (first
      | exact rfl
      | ((repeat (first
      | assumption
      | exact get_new
      | exact get_set (by assumption)
      | exact get_set get_new
      | with_reducible apply get_set
      | apply get_set
      | apply get_old
      | (apply get_set_ne; (focus (first | omega | (simp only [newB_length, List.length_set, List.length_append, List.length_singleton, List.length_nil]; omega))))
      )); done)
      )) ; (focus (first | rfl | assumption)) ; (focus rfl) ; (focus rfl) ; (focus rfl) ; (focus (first | exact Nat.zero_le _ | omega | (simp; done) | (simp; omega))) ; (try dsimp only))
      | (with_reducible refine appendR_nil ?_ ?_)
      | ((with_reducible apply lenR_own) ; (focus assumption))
      | ((with_reducible apply lenR_own) ; (focus (apply Own.upTo ; (focus assumption) ; (repeat (first | exact Gr.refl _ _ | assumption | with_reducible refine Gr.trans ?_ (Gr.boxN _ _ _ _ _) | refine Gr.setNew ?_ (by first | exact Nat.le_refl _ | (simp only [newB_length, List.length_set, List.length_append, List.length_singleton]; omega) | omega) _ | refine Gr.addN ?_ _ | refine Gr.newN ?_ _ _ _ | exact Gr.trans (by assumption) (by assumption) | refine Gr.trans ?_ (by assumption) | refine Gr.trans (by assumption) ?_)) ; (first | done | fail))))
      | ((with_reducible apply rowsR_own) ; (focus assumption))
      | ((with_reducible apply rowsR_own) ; (focus (apply Own.upTo ; (focus assumption) ; (repeat (first | exact Gr.refl _ _ | assumption | with_reducible refine Gr.trans ?_ (Gr.boxN _ _ _ _ _) | refine Gr.setNew ?_ (by first | exact Nat.le_refl _ | (simp only [newB_length, List.length_set, List.length_append, List.length_singleton]; omega) | omega) _ | refine Gr.addN ?_ _ | refine Gr.newN ?_ _ _ _ | exact Gr.trans (by assumption) (by assumption) | refine Gr.trans ?_ (by assumption) | refine Gr.trans (by assumption) ?_)) ; (first | done | fail))))
      | ((with_reducible apply ia_own) ; (focus assumption))
      | ((with_reducible apply ia_own) ; (focus (apply Own.upTo ; (focus assumption) ; (repeat (first | exact Gr.refl _ _ | assumption | with_reducible refine Gr.trans ?_ (Gr.boxN _ _ _ _ _) | refine Gr.setNew ?_ (by first | exact Nat.le_refl _ | (simp only [newB_length, List.length_set, List.length_append, List.length_singleton]; omega) | omega) _ | refine Gr.addN ?_ _ | refine Gr.newN ?_ _ _ _ | exact Gr.trans (by assumption) (by assumption) | refine Gr.trans ?_ (by assumption) | refine Gr.trans (by assumption) ?_)) ; (first | done | fail))))
      | (with_reducible refine ia_sl ?_ ?_)
      | (with_reducible refine IaW.of ?_)
      | (with_reducible refine SliceW.of ?_)
      | ((with_reducible apply AppC.raw) ; (focus assumption))
      | (with_reducible refine AppC.frz ?_)
      | (with_reducible refine EqnW.of ?_)
      | (with_reducible refine CopyW.of ?_)
      | ((with_reducible apply out_own) ; (focus assumption))
      | (with_reducible refine OutW.of ?_)
      | ((with_reducible apply NOut.own) ; (focus assumption))
      | (with_reducible refine NOut.lit ?_)
      | (with_reducible refine nthR_z ?_)
      | ((with_reducible apply nthR_left) ; (focus (first | omega | (simp only [List.length_append, List.length_cons, List.length_nil, List.length_take, List.length_drop, bs_length]; omega))))
      | (with_reducible refine lenR_sl ?_)
      | (with_reducible refine lenR_nils ?_)
      | (with_reducible refine lenR_rsl ?_)
      | (with_reducible refine rowsR_sl ?_)
      | (with_reducible refine rowsR_nils ?_)
      | (with_reducible refine rowsR_rsl ?_)
      | (with_reducible refine lenR_slx ?_)
      | (with_reducible refine rowsR_slx ?_)
      | (with_reducible refine appendR_slx ?_ ?_ ?_)
      | ((with_reducible apply bytesR_intro) ; (focus (first | rfl | (simp only [bs_take, bs_drop, bs_append]; rfl))))
      | ((with_reducible apply nthR_bs) ; (focus (first | omega | (simp only [List.length_append, List.length_cons, List.length_nil, List.length_take, List.length_drop, bs_length]; omega))))
      | (with_reducible intro _)
      ))
      )
    all_goals (conv => whnf)
    all_goals (try dsimp only)
    exact ret_same rfl
  · have hb := cn_bd c
    have eb : btOk c l = incr (cn c) (-1) l := by rw [btOk, ho, Bool.true_and]
    rw [show clE c = 0 from by rw [clE, ho]; rfl, btV, btEr, eb]
    generalize cn c = n at *
    repeat' (first
      | ((with_reducible apply Gr.side) ; with_reducible assumption)
      | ((with_reducible apply Gr.side) ; (repeat (first | exact Gr.refl _ _ | assumption | with_reducible refine Gr.trans ?_ (Gr.boxN _ _ _ _ _) | refine Gr.setNew ?_ (by first | exact Nat.le_refl _ | (simp only [newB_length, List.length_set, List.length_append, List.length_singleton]; omega) | omega) _ | refine Gr.addN ?_ _ | refine Gr.newN ?_ _ _ _ | exact Gr.trans (by assumption) (by assumption) | refine Gr.trans ?_ (by assumption) | refine Gr.trans (by assumption) ?_)) ; (first | done | fail))
      | ((with_reducible refine Side.intro ?_) <;> (first
      | with_reducible rfl
      | omega
      | assumption
      | exact Nat.le_of_ble_eq_true rfl
      | (simp only [bs_length, List.length_append, List.length_cons, List.length_nil, List.length_take, List.length_drop, List.length_set, List.length_replicate]; omega)
      | exact .inl (by omega)
      | exact .inr (.inl ⟨rfl, by (simp only [bs_length, List.length_append, List.length_cons, List.length_nil, List.length_take, List.length_drop, List.length_set, List.length_replicate]; omega)⟩)
      | exact Ref.ok_refl _ _
      | (simp only [List.append_nil, List.nil_append, List.map_nil]; first | exact List.nodup_nil | exact nodup_bid1 _ | exact nodup_bid2 (by assumption))
      | ((first | refine fresh_tup ?_ | skip); (repeat (first |  exact FreshA.sl _ _ FreshA_bs | exact FreshA.sl _ _ FreshA_is | exact FreshA.nils | exact FreshA.nilp | exact FreshA.int _ _ | exact FreshA.bool _ | exact FreshA.str _ | exact fresh_nil | refine fresh_cons ?_ ?_ | with_reducible refine fresh_aggR ?_ | with_reducible refine fresh_agg ?_ | with_reducible exact fresh_nilA | with_reducible refine fresh_consA ?_ ?_)); done)
      | exact rfl
      | (simp; done)
      ))
      | ((conv => whnf) <;> (first
      | (with_reducible refine and_same ?_)
      | (with_reducible refine and_side ?_ ?_)
      | (with_reducible refine Br.yes rfl ?_)
      | ((with_reducible apply Br.yes) ; (focus omega))
      | ((with_reducible apply Br.no) ; (focus omega))
      | ((with_reducible apply Br.no) ; (focus assumption))
      | ((with_reducible apply Br.yes) ; (focus assumption))
      | ((with_reducible apply Br.yes) ; (focus ((with_reducible refine And.intro ?_ ?_) ; (repeat' (first | with_reducible rfl | exact True.intro | with_reducible refine And.intro ?_ ?_ | omega | assumption)) ; (first | done | fail))))
      | (with_reducible refine Br.mk (fun _ => ?_) (fun _ => ?_))
      | (with_reducible refine Both.mk ?_ ?_)
      | ((with_reducible apply blkAt_intro) ; (focus (first
      | exact rfl
      | ((repeat (first
      | assumption
      | exact get_new
      | exact get_set (by assumption)
      | exact get_set get_new
      | with_reducible apply get_set
      | apply get_set
      | apply get_old
      | (apply get_set_ne; (focus (first | omega | (simp only [newB_length, List.length_set, List.length_append, List.length_singleton, List.length_nil]; omega))))
      )); done)
      )) ; (focus (first | rfl | assumption | omega)) ; (try dsimp only))
      | ((with_reducible apply nthR_dat) ; (focus assumption))
      | ((with_reducible apply nthR_bs1) ; (focus assumption))
      | ((with_reducible apply nthR_is1) ; (focus assumption))
      | ((with_reducible apply appendR_lit) ; (focus (first
      | exact rfl
      | ((repeat (first
      | assumption
      | exact get_new
      | exact get_set (by assumption)
      | exact get_set get_new
      | with_reducible apply get_set
      | apply get_set
      | apply get_old
      | (apply get_set_ne; (focus (first | omega | (simp only [newB_length, List.length_set, List.length_append, List.length_singleton, List.length_nil]; omega))))
      )); done)
      )) ; (focus (first | rfl | assumption)) ; (focus rfl) ; (focus rfl) ; (focus rfl) ; (focus (first | exact Nat.zero_le _ | omega | (simp; done) | (simp; omega))) ; (try dsimp only))
      | (with_reducible refine appendR_nil ?_ ?_)
      | ((with_reducible apply lenR_own) ; (focus assumption))
      | ((with_reducible apply lenR_own) ; (focus (apply Own.upTo ; (focus assumption) ; (repeat (first | exact Gr.refl _ _ | assumption | with_reducible refine Gr.trans ?_ (Gr.boxN _ _ _ _ _) | refine Gr.setNew ?_ (by first | exact Nat.le_refl _ | (simp only [newB_length, List.length_set, List.length_append, List.length_singleton]; omega) | omega) _ | refine Gr.addN ?_ _ | refine Gr.newN ?_ _ _ _ | exact Gr.trans (by assumption) (by assumption) | refine Gr.trans ?_ (by assumption) | refine Gr.trans (by assumption) ?_)) ; (first | done | fail))))
      | ((with_reducible apply rowsR_own) ; (focus assumption))
      | ((with_reducible apply rowsR_own) ; (focus (apply Own.upTo ; (focus assumption) ; (repeat (first | exact Gr.refl _ _ | assumption | with_reducible refine Gr.trans ?_ (Gr.boxN _ _ _ _ _) | refine Gr.setNew ?_ (by first | exact Nat.le_refl _ | (simp only [newB_length, List.length_set, List.length_append, List.length_singleton]; omega) | omega) _ | refine Gr.addN ?_ _ | refine Gr.newN ?_ _ _ _ | exact Gr.trans (by assumption) (by assumption) | refine Gr.trans ?_ (by assumption) | refine Gr.trans (by assumption) ?_)) ; (first | done | fail))))
      | ((with_reducible apply ia_own) ; (focus assumption))
      | ((with_reducible apply ia_own) ; (focus (apply Own.upTo ; (focus assumption) ; (repeat (first | exact Gr.refl _ _ | assumption | with_reducible refine Gr.trans ?_ (Gr.boxN _ _ _ _ _) | refine Gr.setNew ?_ (by first | exact Nat.le_refl _ | (simp only [newB_length, List.length_set, List.length_append, List.length_singleton]; omega) | omega) _ | refine Gr.addN ?_ _ | refine Gr.newN ?_ _ _ _ | exact Gr.trans (by assumption) (by assumption) | refine Gr.trans ?_ (by assumption) | refine Gr.trans (by assumption) ?_)) ; (first | done | fail))))
      | (with_reducible refine ia_sl ?_ ?_)
      | (with_reducible refine IaW.of ?_)
      | (with_reducible refine SliceW.of ?_)
      | ((with_reducible apply AppC.raw) ; (focus assumption))
      | (with_reducible refine AppC.frz ?_)
      | (with_reducible refine EqnW.of ?_)
      | (with_reducible refine CopyW.of ?_)
      | ((with_reducible apply out_own) ; (focus assumption))
      | (with_reducible refine OutW.of ?_)
      | ((with_reducible apply NOut.own) ; (focus assumption))
      | (with_reducible refine NOut.lit ?_)
      | (with_reducible refine nthR_z ?_)
      | ((with_reducible apply nthR_left) ; (focus (first | omega | (simp only [List.length_append, List.length_cons, List.length_nil, List.length_take, List.length_drop, bs_length]; omega))))
      | (with_reducible refine lenR_sl ?_)
      | (with_reducible refine lenR_nils ?_)
      | (with_reducible refine lenR_rsl ?_)
      | (with_reducible refine rowsR_sl ?_)
      | (with_reducible refine rowsR_nils ?_)
      | (with_reducible refine rowsR_rsl ?_)
      | (with_reducible refine lenR_slx ?_)
      | (with_reducible refine rowsR_slx ?_)
      | (with_reducible refine appendR_slx ?_ ?_ ?_)
      | ((with_reducible apply bytesR_intro) ; (focus (first | rfl | (simp only [bs_take, bs_drop, bs_append]; rfl))))
      | ((with_reducible apply nthR_bs) ; (focus (first | omega | (simp only [List.length_append, List.length_cons, List.length_nil, List.length_take, List.length_drop, bs_length]; omega))))
      | (with_reducible intro _)
      ))
      )
    all_goals (conv => whnf)
    all_goals (try dsimp only)
    refine loop_at (α := Nat) (fun i => [(8, .int .i64 (sumv (l.take i) : Nat)), (9, .int .i64 i)]) (fun _ => H1) (fun i => i ≤ l.length ∧ incr n (-1) (l.take i) = true ∧ sumv (l.take i) < 2 ^ (lst (-1) (l.take i) + 1).toNat ∧ -1 ≤ lst (-1) (l.take i) ∧ lst (-1) (l.take i) < 14) (fun i => l.length - i) 0 ⟨by omega, rfl, by show 0 < 2 ^ ((-1 : Int) + 1).toNat; decide, by show (-1 : Int) ≤ -1; omega, by show (-1 : Int) < 14; omega⟩ rfl rfl ?_
    rintro i ⟨hi, c1, c2, c3, c4⟩
    by_cases hlt : i < l.length
    · obtain ⟨v, hv, hv'⟩ := getN hlt
      have et : l.take (i + 1) = l.take i ++ [v] := by rw [List.take_add_one, hv']; rfl
      have ei : incr n (-1) (l.take (i + 1)) = decide (lst (-1) (l.take i) < v ∧ v < n) := by
        rw [et, incr_append, c1, Bool.true_and, incr, incr, Bool.and_true]
      have ea : incr n (-1) l = (incr n (-1) (l.take (i + 1)) && incr n (lst (-1) (l.take (i + 1))) (l.drop (i + 1))) := by
        rw [← incr_append, List.take_append_drop]
      obtain ⟨p, hp, hp'⟩ : ∃ p, (0 < i → l[((i : Int) - 1).toNat]? = some p ∧ p = lst (-1) (l.take i)) ∧ (i = 0 → lst (-1) (l.take i) = -1) := by
        cases i with
        | zero => exact ⟨0, fun h => by omega, fun _ => rfl⟩
        | succ j =>
          obtain ⟨p, hp, hp'⟩ := getN (l := l) (k := j) (by omega)
          refine ⟨p, fun _ => ⟨by rw [show (((j + 1 : Nat) : Int) - 1).toNat = j from by omega]; exact hp', ?_⟩, fun h => by omega⟩
          rw [List.take_add_one, hp']
          exact (lst_append _ p (-1)).symm
      by_cases hok : lst (-1) (l.take i) < v ∧ v < n
      · obtain ⟨k, rfl⟩ : ∃ k : Nat, v = k := ⟨v.toNat, by omega⟩
        have hb2 : sumv (l.take i) < 2 ^ k := Nat.lt_of_lt_of_le c2 (Nat.pow_le_pow_right (by omega) (by omega))
        have s1 := shl_bit (k := k) (by omega)
        have s3 := pow_le14 (k := k) (by omega)
        have e1 : sumv (l.take (i + 1)) = sumv (l.take i) + 2 ^ k := by rw [et, sumv_append]; simp [sumv]
        have e2 : lst (-1) (l.take (i + 1)) = k := by rw [et, lst_append]
        have e3 : sumv (l.take i) + 2 ^ k < 2 ^ (k + 1) := by rw [Nat.pow_succ]; omega
        have hfin : i + 1 ≤ l.length ∧ incr n (-1) (l.take (i + 1)) = true ∧ sumv (l.take (i + 1)) < 2 ^ (lst (-1) (l.take (i + 1)) + 1).toNat ∧ -1 ≤ lst (-1) (l.take (i + 1)) ∧ lst (-1) (l.take (i + 1)) < 14 := by
          rw [e1, e2, ei]
          exact ⟨by omega, decide_eq_true hok, e3, by omega, by omega⟩
        obtain ⟨q, hq⟩ : ∃ q : Nat, q = 2 ^ k := ⟨_, rfl⟩
        rw [← hq] at s1 s3 e1
        by_cases hi0 : 0 < i
        · obtain ⟨hpp, hpe⟩ := hp hi0
          repeat' (first
            | ((with_reducible apply Gr.side) ; with_reducible assumption)
            | ((with_reducible apply Gr.side) ; (repeat (first | exact Gr.refl _ _ | assumption | with_reducible refine Gr.trans ?_ (Gr.boxN _ _ _ _ _) | refine Gr.setNew ?_ (by first | exact Nat.le_refl _ | (simp only [newB_length, List.length_set, List.length_append, List.length_singleton]; omega) | omega) _ | refine Gr.addN ?_ _ | refine Gr.newN ?_ _ _ _ | exact Gr.trans (by assumption) (by assumption) | refine Gr.trans ?_ (by assumption) | refine Gr.trans (by assumption) ?_)) ; (first | done | fail))
            | ((with_reducible refine Side.intro ?_) <;> (first
            | with_reducible rfl
            | omega
            | assumption
            | exact Nat.le_of_ble_eq_true rfl
            | (simp only [bs_length, List.length_append, List.length_cons, List.length_nil, List.length_take, List.length_drop, List.length_set, List.length_replicate]; omega)
            | exact .inl (by omega)
            | exact .inr (.inl ⟨rfl, by (simp only [bs_length, List.length_append, List.length_cons, List.length_nil, List.length_take, List.length_drop, List.length_set, List.length_replicate]; omega)⟩)
            | exact Ref.ok_refl _ _
            | (simp only [List.append_nil, List.nil_append, List.map_nil]; first | exact List.nodup_nil | exact nodup_bid1 _ | exact nodup_bid2 (by assumption))
            | ((first | refine fresh_tup ?_ | skip); (repeat (first |  exact FreshA.sl _ _ FreshA_bs | exact FreshA.sl _ _ FreshA_is | exact FreshA.nils | exact FreshA.nilp | exact FreshA.int _ _ | exact FreshA.bool _ | exact FreshA.str _ | exact fresh_nil | refine fresh_cons ?_ ?_ | with_reducible refine fresh_aggR ?_ | with_reducible refine fresh_agg ?_ | with_reducible exact fresh_nilA | with_reducible refine fresh_consA ?_ ?_)); done)
            | exact rfl
            | (simp; done)
            ))
            | ((conv => whnf) <;> (first
            | (with_reducible refine and_same ?_)
            | (with_reducible refine and_side ?_ ?_)
            | (with_reducible refine Br.yes rfl ?_)
            | ((with_reducible apply Br.yes) ; (focus omega))
            | ((with_reducible apply Br.no) ; (focus omega))
            | ((with_reducible apply Br.no) ; (focus assumption))
            | ((with_reducible apply Br.yes) ; (focus assumption))
            | ((with_reducible apply Br.yes) ; (focus ((with_reducible refine And.intro ?_ ?_) ; (repeat' (first | with_reducible rfl | exact True.intro | with_reducible refine And.intro ?_ ?_ | omega | assumption)) ; (first | done | fail))))
            | (with_reducible refine Br.mk (fun _ => ?_) (fun _ => ?_))
            | (with_reducible refine Both.mk ?_ ?_)
            | ((with_reducible apply blkAt_intro) ; (focus (first
            | exact rfl
            | ((repeat (first
            | assumption
            | exact get_new
            | exact get_set (by assumption)
            | exact get_set get_new
            | with_reducible apply get_set
            | apply get_set
            | apply get_old
            | (apply get_set_ne; (focus (first | omega | (simp only [newB_length, List.length_set, List.length_append, List.length_singleton, List.length_nil]; omega))))
            )); done)
            )) ; (focus (first | rfl | assumption | omega)) ; (try dsimp only))
            | ((with_reducible apply nthR_dat) ; (focus assumption))
            | ((with_reducible apply nthR_bs1) ; (focus assumption))
            | ((with_reducible apply nthR_is1) ; (focus assumption))
            | ((with_reducible apply appendR_lit) ; (focus (first
            | exact rfl
            | ((repeat (first
            | assumption
            | exact get_new
            | exact get_set (by assumption)
            | exact get_set get_new
            | with_reducible apply get_set
            | apply get_set
            | apply get_old
            | (apply get_set_ne; (focus (first | omega | (simp only [newB_length, List.length_set, List.length_append, List.length_singleton, List.length_nil]; omega))))
            )); done)
            )) ; (focus (first | rfl | assumption)) ; (focus rfl) ; (focus rfl) ; (focus rfl) ; (focus (first | exact Nat.zero_le _ | omega | (simp; done) | (simp; omega))) ; (try dsimp only))
            | (with_reducible refine appendR_nil ?_ ?_)
            | ((with_reducible apply lenR_own) ; (focus assumption))
            | ((with_reducible apply lenR_own) ; (focus (apply Own.upTo ; (focus assumption) ; (repeat (first | exact Gr.refl _ _ | assumption | with_reducible refine Gr.trans ?_ (Gr.boxN _ _ _ _ _) | refine Gr.setNew ?_ (by first | exact Nat.le_refl _ | (simp only [newB_length, List.length_set, List.length_append, List.length_singleton]; omega) | omega) _ | refine Gr.addN ?_ _ | refine Gr.newN ?_ _ _ _ | exact Gr.trans (by assumption) (by assumption) | refine Gr.trans ?_ (by assumption) | refine Gr.trans (by assumption) ?_)) ; (first | done | fail))))
            | ((with_reducible apply rowsR_own) ; (focus assumption))
            | ((with_reducible apply rowsR_own) ; (focus (apply Own.upTo ; (focus assumption) ; (repeat (first | exact Gr.refl _ _ | assumption | with_reducible refine Gr.trans ?_ (Gr.boxN _ _ _ _ _) | refine Gr.setNew ?_ (by first | exact Nat.le_refl _ | (simp only [newB_length, List.length_set, List.length_append, List.length_singleton]; omega) | omega) _ | refine Gr.addN ?_ _ | refine Gr.newN ?_ _ _ _ | exact Gr.trans (by assumption) (by assumption) | refine Gr.trans ?_ (by assumption) | refine Gr.trans (by assumption) ?_)) ; (first | done | fail))))
            | ((with_reducible apply ia_own) ; (focus assumption))
            | ((with_reducible apply ia_own) ; (focus (apply Own.upTo ; (focus assumption) ; (repeat (first | exact Gr.refl _ _ | assumption | with_reducible refine Gr.trans ?_ (Gr.boxN _ _ _ _ _) | refine Gr.setNew ?_ (by first | exact Nat.le_refl _ | (simp only [newB_length, List.length_set, List.length_append, List.length_singleton]; omega) | omega) _ | refine Gr.addN ?_ _ | refine Gr.newN ?_ _ _ _ | exact Gr.trans (by assumption) (by assumption) | refine Gr.trans ?_ (by assumption) | refine Gr.trans (by assumption) ?_)) ; (first | done | fail))))
            | (with_reducible refine ia_sl ?_ ?_)
            | (with_reducible refine IaW.of ?_)
            | (with_reducible refine SliceW.of ?_)
            | ((with_reducible apply AppC.raw) ; (focus assumption))
            | (with_reducible refine AppC.frz ?_)
            | (with_reducible refine EqnW.of ?_)
            | (with_reducible refine CopyW.of ?_)
            | ((with_reducible apply out_own) ; (focus assumption))
            | (with_reducible refine OutW.of ?_)
            | ((with_reducible apply NOut.own) ; (focus assumption))
            | (with_reducible refine NOut.lit ?_)
            | (with_reducible refine nthR_z ?_)
            | ((with_reducible apply nthR_left) ; (focus (first | omega | (simp only [List.length_append, List.length_cons, List.length_nil, List.length_take, List.length_drop, bs_length]; omega))))
            | (with_reducible refine lenR_sl ?_)
            | (with_reducible refine lenR_nils ?_)
            | (with_reducible refine lenR_rsl ?_)
            | (with_reducible refine rowsR_sl ?_)
            | (with_reducible refine rowsR_nils ?_)
            | (with_reducible refine rowsR_rsl ?_)
            | (with_reducible refine lenR_slx ?_)
            | (with_reducible refine rowsR_slx ?_)
            | (with_reducible refine appendR_slx ?_ ?_ ?_)
            | ((with_reducible apply bytesR_intro) ; (focus (first | rfl | (simp only [bs_take, bs_drop, bs_append]; rfl))))
            | ((with_reducible apply nthR_bs) ; (focus (first | omega | (simp only [List.length_append, List.length_cons, List.length_nil, List.length_take, List.length_drop, bs_length]; omega))))
            | (with_reducible intro _)
            ))
            )
          all_goals (conv => whnf)
          all_goals (try dsimp only)
          all_goals first
            | omega
            | (rw [s1]; exact ⟨i + 1, by rw [e1]; rfl, rfl, hfin, by omega⟩)
        · have hl0 := hp' (by omega)
          repeat' (first
            | ((with_reducible apply Gr.side) ; with_reducible assumption)
            | ((with_reducible apply Gr.side) ; (repeat (first | exact Gr.refl _ _ | assumption | with_reducible refine Gr.trans ?_ (Gr.boxN _ _ _ _ _) | refine Gr.setNew ?_ (by first | exact Nat.le_refl _ | (simp only [newB_length, List.length_set, List.length_append, List.length_singleton]; omega) | omega) _ | refine Gr.addN ?_ _ | refine Gr.newN ?_ _ _ _ | exact Gr.trans (by assumption) (by assumption) | refine Gr.trans ?_ (by assumption) | refine Gr.trans (by assumption) ?_)) ; (first | done | fail))
            | ((with_reducible refine Side.intro ?_) <;> (first
            | with_reducible rfl
            | omega
            | assumption
            | exact Nat.le_of_ble_eq_true rfl
            | (simp only [bs_length, List.length_append, List.length_cons, List.length_nil, List.length_take, List.length_drop, List.length_set, List.length_replicate]; omega)
            | exact .inl (by omega)
            | exact .inr (.inl ⟨rfl, by (simp only [bs_length, List.length_append, List.length_cons, List.length_nil, List.length_take, List.length_drop, List.length_set, List.length_replicate]; omega)⟩)
            | exact Ref.ok_refl _ _
            | (simp only [List.append_nil, List.nil_append, List.map_nil]; first | exact List.nodup_nil | exact nodup_bid1 _ | exact nodup_bid2 (by assumption))
            | ((first | refine fresh_tup ?_ | skip); (repeat (first |  exact FreshA.sl _ _ FreshA_bs | exact FreshA.sl _ _ FreshA_is | exact FreshA.nils | exact FreshA.nilp | exact FreshA.int _ _ | exact FreshA.bool _ | exact FreshA.str _ | exact fresh_nil | refine fresh_cons ?_ ?_ | with_reducible refine fresh_aggR ?_ | with_reducible refine fresh_agg ?_ | with_reducible exact fresh_nilA | with_reducible refine fresh_consA ?_ ?_)); done)
            | exact rfl
            | (simp; done)
            ))
            | ((conv => whnf) <;> (first
            | (with_reducible refine and_same ?_)
            | (with_reducible refine and_side ?_ ?_)
            | (with_reducible refine Br.yes rfl ?_)
            | ((with_reducible apply Br.yes) ; (focus omega))
            | ((with_reducible apply Br.no) ; (focus omega))
            | ((with_reducible apply Br.no) ; (focus assumption))
            | ((with_reducible apply Br.yes) ; (focus assumption))
            | ((with_reducible apply Br.yes) ; (focus ((with_reducible refine And.intro ?_ ?_) ; (repeat' (first | with_reducible rfl | exact True.intro | with_reducible refine And.intro ?_ ?_ | omega | assumption)) ; (first | done | fail))))
            | (with_reducible refine Br.mk (fun _ => ?_) (fun _ => ?_))
            | (with_reducible refine Both.mk ?_ ?_)
            | ((with_reducible apply blkAt_intro) ; (focus (first
            | exact rfl
            | ((repeat (first
            | assumption
            | exact get_new
            | exact get_set (by assumption)
            | exact get_set get_new
            | with_reducible apply get_set
            | apply get_set
            | apply get_old
            | (apply get_set_ne; (focus (first | omega | (simp only [newB_length, List.length_set, List.length_append, List.length_singleton, List.length_nil]; omega))))
            )); done)
            )) ; (focus (first | rfl | assumption | omega)) ; (try dsimp only))
            | ((with_reducible apply nthR_dat) ; (focus assumption))
            | ((with_reducible apply nthR_bs1) ; (focus assumption))
            | ((with_reducible apply nthR_is1) ; (focus assumption))
            | ((with_reducible apply appendR_lit) ; (focus (first
            | exact rfl
            | ((repeat (first
            | assumption
            | exact get_new
            | exact get_set (by assumption)
            | exact get_set get_new
            | with_reducible apply get_set
            | apply get_set
            | apply get_old
            | (apply get_set_ne; (focus (first | omega | (simp only [newB_length, List.length_set, List.length_append, List.length_singleton, List.length_nil]; omega))))
            )); done)
            )) ; (focus (first | rfl | assumption)) ; (focus rfl) ; (focus rfl) ; (focus rfl) ; (focus (first | exact Nat.zero_le _ | omega | (simp; done) | (simp; omega))) ; (try dsimp only))
            | (with_reducible refine appendR_nil ?_ ?_)
            | ((with_reducible apply lenR_own) ; (focus assumption))
            | ((with_reducible apply lenR_own) ; (focus (apply Own.upTo ; (focus assumption) ; (repeat (first | exact Gr.refl _ _ | assumption | with_reducible refine Gr.trans ?_ (Gr.boxN _ _ _ _ _) | refine Gr.setNew ?_ (by first | exact Nat.le_refl _ | (simp only [newB_length, List.length_set, List.length_append, List.length_singleton]; omega) | omega) _ | refine Gr.addN ?_ _ | refine Gr.newN ?_ _ _ _ | exact Gr.trans (by assumption) (by assumption) | refine Gr.trans ?_ (by assumption) | refine Gr.trans (by assumption) ?_)) ; (first | done | fail))))
            | ((with_reducible apply rowsR_own) ; (focus assumption))
            | ((with_reducible apply rowsR_own) ; (focus (apply Own.upTo ; (focus assumption) ; (repeat (first | exact Gr.refl _ _ | assumption | with_reducible refine Gr.trans ?_ (Gr.boxN _ _ _ _ _) | refine Gr.setNew ?_ (by first | exact Nat.le_refl _ | (simp only [newB_length, List.length_set, List.length_append, List.length_singleton]; omega) | omega) _ | refine Gr.addN ?_ _ | refine Gr.newN ?_ _ _ _ | exact Gr.trans (by assumption) (by assumption) | refine Gr.trans ?_ (by assumption) | refine Gr.trans (by assumption) ?_)) ; (first | done | fail))))
            | ((with_reducible apply ia_own) ; (focus assumption))
            | ((with_reducible apply ia_own) ; (focus (apply Own.upTo ; (focus assumption) ; (repeat (first | exact Gr.refl _ _ | assumption | with_reducible refine Gr.trans ?_ (Gr.boxN _ _ _ _ _) | refine Gr.setNew ?_ (by first | exact Nat.le_refl _ | (simp only [newB_length, List.length_set, List.length_append, List.length_singleton]; omega) | omega) _ | refine Gr.addN ?_ _ | refine Gr.newN ?_ _ _ _ | exact Gr.trans (by assumption) (by assumption) | refine Gr.trans ?_ (by assumption) | refine Gr.trans (by assumption) ?_)) ; (first | done | fail))))
            | (with_reducible refine ia_sl ?_ ?_)
            | (with_reducible refine IaW.of ?_)
            | (with_reducible refine SliceW.of ?_)
            | ((with_reducible apply AppC.raw) ; (focus assumption))
            | (with_reducible refine AppC.frz ?_)
            | (with_reducible refine EqnW.of ?_)
            | (with_reducible refine CopyW.of ?_)
            | ((with_reducible apply out_own) ; (focus assumption))
            | (with_reducible refine OutW.of ?_)
            | ((with_reducible apply NOut.own) ; (focus assumption))
            | (with_reducible refine NOut.lit ?_)
            | (with_reducible refine nthR_z ?_)
            | ((with_reducible apply nthR_left) ; (focus (first | omega | (simp only [List.length_append, List.length_cons, List.length_nil, List.length_take, List.length_drop, bs_length]; omega))))
            | (with_reducible refine lenR_sl ?_)
            | (with_reducible refine lenR_nils ?_)
            | (with_reducible refine lenR_rsl ?_)
            | (with_reducible refine rowsR_sl ?_)
            | (with_reducible refine rowsR_nils ?_)
            | (with_reducible refine rowsR_rsl ?_)
            | (with_reducible refine lenR_slx ?_)
            | (with_reducible refine rowsR_slx ?_)
            | (with_reducible refine appendR_slx ?_ ?_ ?_)
            | ((with_reducible apply bytesR_intro) ; (focus (first | rfl | (simp only [bs_take, bs_drop, bs_append]; rfl))))
            | ((with_reducible apply nthR_bs) ; (focus (first | omega | (simp only [List.length_append, List.length_cons, List.length_nil, List.length_take, List.length_drop, bs_length]; omega))))
            | (with_reducible intro _)
            ))
            )
          all_goals (conv => whnf)
          all_goals (try dsimp only)
          all_goals first
            | omega
            | (rw [s1]; exact ⟨i + 1, by rw [e1]; rfl, rfl, hfin, by omega⟩)
      · rw [ea, ei, decide_eq_false hok]
        by_cases hi0 : 0 < i
        · obtain ⟨hpp, hpe⟩ := hp hi0
          repeat' (first
            | ((with_reducible apply Gr.side) ; with_reducible assumption)
            | ((with_reducible apply Gr.side) ; (repeat (first | exact Gr.refl _ _ | assumption | with_reducible refine Gr.trans ?_ (Gr.boxN _ _ _ _ _) | refine Gr.setNew ?_ (by first | exact Nat.le_refl _ | (simp only [newB_length, List.length_set, List.length_append, List.length_singleton]; omega) | omega) _ | refine Gr.addN ?_ _ | refine Gr.newN ?_ _ _ _ | exact Gr.trans (by assumption) (by assumption) | refine Gr.trans ?_ (by assumption) | refine Gr.trans (by assumption) ?_)) ; (first | done | fail))
            | ((with_reducible refine Side.intro ?_) <;> (first
            | with_reducible rfl
            | omega
            | assumption
            | exact Nat.le_of_ble_eq_true rfl
            | (simp only [bs_length, List.length_append, List.length_cons, List.length_nil, List.length_take, List.length_drop, List.length_set, List.length_replicate]; omega)
            | exact .inl (by omega)
            | exact .inr (.inl ⟨rfl, by (simp only [bs_length, List.length_append, List.length_cons, List.length_nil, List.length_take, List.length_drop, List.length_set, List.length_replicate]; omega)⟩)
            | exact Ref.ok_refl _ _
            | (simp only [List.append_nil, List.nil_append, List.map_nil]; first | exact List.nodup_nil | exact nodup_bid1 _ | exact nodup_bid2 (by assumption))
            | ((first | refine fresh_tup ?_ | skip); (repeat (first |  exact FreshA.sl _ _ FreshA_bs | exact FreshA.sl _ _ FreshA_is | exact FreshA.nils | exact FreshA.nilp | exact FreshA.int _ _ | exact FreshA.bool _ | exact FreshA.str _ | exact fresh_nil | refine fresh_cons ?_ ?_ | with_reducible refine fresh_aggR ?_ | with_reducible refine fresh_agg ?_ | with_reducible exact fresh_nilA | with_reducible refine fresh_consA ?_ ?_)); done)
            | exact rfl
            | (simp; done)
            ))
            | ((conv => whnf) <;> (first
            | (with_reducible refine and_same ?_)
            | (with_reducible refine and_side ?_ ?_)
            | (with_reducible refine Br.yes rfl ?_)
            | ((with_reducible apply Br.yes) ; (focus omega))
            | ((with_reducible apply Br.no) ; (focus omega))
            | ((with_reducible apply Br.no) ; (focus assumption))
            | ((with_reducible apply Br.yes) ; (focus assumption))
            | ((with_reducible apply Br.yes) ; (focus ((with_reducible refine And.intro ?_ ?_) ; (repeat' (first | with_reducible rfl | exact True.intro | with_reducible refine And.intro ?_ ?_ | omega | assumption)) ; (first | done | fail))))
            | (with_reducible refine Br.mk (fun _ => ?_) (fun _ => ?_))
            | (with_reducible refine Both.mk ?_ ?_)
            | ((with_reducible apply blkAt_intro) ; (focus (first
            | exact rfl
            | ((repeat (first
            | assumption
            | exact get_new
            | exact get_set (by assumption)
            | exact get_set get_new
            | with_reducible apply get_set
            | apply get_set
            | apply get_old
            | (apply get_set_ne; (focus (first | omega | (simp only [newB_length, List.length_set, List.length_append, List.length_singleton, List.length_nil]; omega))))
            )); done)
            )) ; (focus (first | rfl | assumption | omega)) ; (try dsimp only))
            | ((with_reducible apply nthR_dat) ; (focus assumption))
            | ((with_reducible apply nthR_bs1) ; (focus assumption))
            | ((with_reducible apply nthR_is1) ; (focus assumption))
            | ((with_reducible apply appendR_lit) ; (focus (first
            | exact rfl
            | ((repeat (first
            | assumption
            | exact get_new
            | exact get_set (by assumption)
            | exact get_set get_new
            | with_reducible apply get_set
            | apply get_set
            | apply get_old
            | (apply get_set_ne; (focus (first | omega | (simp only [newB_length, List.length_set, List.length_append, List.length_singleton, List.length_nil]; omega))))
            )); done)
            )) ; (focus (first | rfl | assumption)) ; (focus rfl) ; (focus rfl) ; (focus rfl) ; (focus (first | exact Nat.zero_le _ | omega | (simp; done) | (simp; omega))) ; (try dsimp only))
            | (with_reducible refine appendR_nil ?_ ?_)
            | ((with_reducible apply lenR_own) ; (focus assumption))
            | ((with_reducible apply lenR_own) ; (focus (apply Own.upTo ; (focus assumption) ; (repeat (first | exact Gr.refl _ _ | assumption | with_reducible refine Gr.trans ?_ (Gr.boxN _ _ _ _ _) | refine Gr.setNew ?_ (by first | exact Nat.le_refl _ | (simp only [newB_length, List.length_set, List.length_append, List.length_singleton]; omega) | omega) _ | refine Gr.addN ?_ _ | refine Gr.newN ?_ _ _ _ | exact Gr.trans (by assumption) (by assumption) | refine Gr.trans ?_ (by assumption) | refine Gr.trans (by assumption) ?_)) ; (first | done | fail))))
            | ((with_reducible apply rowsR_own) ; (focus assumption))
            | ((with_reducible apply rowsR_own) ; (focus (apply Own.upTo ; (focus assumption) ; (repeat (first | exact Gr.refl _ _ | assumption | with_reducible refine Gr.trans ?_ (Gr.boxN _ _ _ _ _) | refine Gr.setNew ?_ (by first | exact Nat.le_refl _ | (simp only [newB_length, List.length_set, List.length_append, List.length_singleton]; omega) | omega) _ | refine Gr.addN ?_ _ | refine Gr.newN ?_ _ _ _ | exact Gr.trans (by assumption) (by assumption) | refine Gr.trans ?_ (by assumption) | refine Gr.trans (by assumption) ?_)) ; (first | done | fail))))
            | ((with_reducible apply ia_own) ; (focus assumption))
            | ((with_reducible apply ia_own) ; (focus (apply Own.upTo ; (focus assumption) ; (repeat (first | exact Gr.refl _ _ | assumption | with_reducible refine Gr.trans ?_ (Gr.boxN _ _ _ _ _) | refine Gr.setNew ?_ (by first | exact Nat.le_refl _ | (simp only [newB_length, List.length_set, List.length_append, List.length_singleton]; omega) | omega) _ | refine Gr.addN ?_ _ | refine Gr.newN ?_ _ _ _ | exact Gr.trans (by assumption) (by assumption) | refine Gr.trans ?_ (by assumption) | refine Gr.trans (by assumption) ?_)) ; (first | done | fail))))
            | (with_reducible refine ia_sl ?_ ?_)
            | (with_reducible refine IaW.of ?_)
            | (with_reducible refine SliceW.of ?_)
            | ((with_reducible apply AppC.raw) ; (focus assumption))
            | (with_reducible refine AppC.frz ?_)
            | (with_reducible refine EqnW.of ?_)
            | (with_reducible refine CopyW.of ?_)
            | ((with_reducible apply out_own) ; (focus assumption))
            | (with_reducible refine OutW.of ?_)
            | ((with_reducible apply NOut.own) ; (focus assumption))
            | (with_reducible refine NOut.lit ?_)
            | (with_reducible refine nthR_z ?_)
            | ((with_reducible apply nthR_left) ; (focus (first | omega | (simp only [List.length_append, List.length_cons, List.length_nil, List.length_take, List.length_drop, bs_length]; omega))))
            | (with_reducible refine lenR_sl ?_)
            | (with_reducible refine lenR_nils ?_)
            | (with_reducible refine lenR_rsl ?_)
            | (with_reducible refine rowsR_sl ?_)
            | (with_reducible refine rowsR_nils ?_)
            | (with_reducible refine rowsR_rsl ?_)
            | (with_reducible refine lenR_slx ?_)
            | (with_reducible refine rowsR_slx ?_)
            | (with_reducible refine appendR_slx ?_ ?_ ?_)
            | ((with_reducible apply bytesR_intro) ; (focus (first | rfl | (simp only [bs_take, bs_drop, bs_append]; rfl))))
            | ((with_reducible apply nthR_bs) ; (focus (first | omega | (simp only [List.length_append, List.length_cons, List.length_nil, List.length_take, List.length_drop, bs_length]; omega))))
            | (with_reducible intro _)
            ))
            )
          all_goals (conv => whnf)
          all_goals (try dsimp only)
          all_goals first
            | omega
            | exact ret_same rfl
        · have hl0 := hp' (by omega)
          repeat' (first
            | ((with_reducible apply Gr.side) ; with_reducible assumption)
            | ((with_reducible apply Gr.side) ; (repeat (first | exact Gr.refl _ _ | assumption | with_reducible refine Gr.trans ?_ (Gr.boxN _ _ _ _ _) | refine Gr.setNew ?_ (by first | exact Nat.le_refl _ | (simp only [newB_length, List.length_set, List.length_append, List.length_singleton]; omega) | omega) _ | refine Gr.addN ?_ _ | refine Gr.newN ?_ _ _ _ | exact Gr.trans (by assumption) (by assumption) | refine Gr.trans ?_ (by assumption) | refine Gr.trans (by assumption) ?_)) ; (first | done | fail))
            | ((with_reducible refine Side.intro ?_) <;> (first
            | with_reducible rfl
            | omega
            | assumption
            | exact Nat.le_of_ble_eq_true rfl
            | (simp only [bs_length, List.length_append, List.length_cons, List.length_nil, List.length_take, List.length_drop, List.length_set, List.length_replicate]; omega)
            | exact .inl (by omega)
            | exact .inr (.inl ⟨rfl, by (simp only [bs_length, List.length_append, List.length_cons, List.length_nil, List.length_take, List.length_drop, List.length_set, List.length_replicate]; omega)⟩)
            | exact Ref.ok_refl _ _
            | (simp only [List.append_nil, List.nil_append, List.map_nil]; first | exact List.nodup_nil | exact nodup_bid1 _ | exact nodup_bid2 (by assumption))
            | ((first | refine fresh_tup ?_ | skip); (repeat (first |  exact FreshA.sl _ _ FreshA_bs | exact FreshA.sl _ _ FreshA_is | exact FreshA.nils | exact FreshA.nilp | exact FreshA.int _ _ | exact FreshA.bool _ | exact FreshA.str _ | exact fresh_nil | refine fresh_cons ?_ ?_ | with_reducible refine fresh_aggR ?_ | with_reducible refine fresh_agg ?_ | with_reducible exact fresh_nilA | with_reducible refine fresh_consA ?_ ?_)); done)
            | exact rfl
            | (simp; done)
            ))
            | ((conv => whnf) <;> (first
            | (with_reducible refine and_same ?_)
            | (with_reducible refine and_side ?_ ?_)
            | (with_reducible refine Br.yes rfl ?_)
            | ((with_reducible apply Br.yes) ; (focus omega))
            | ((with_reducible apply Br.no) ; (focus omega))
            | ((with_reducible apply Br.no) ; (focus assumption))
            | ((with_reducible apply Br.yes) ; (focus assumption))
            | ((with_reducible apply Br.yes) ; (focus ((with_reducible refine And.intro ?_ ?_) ; (repeat' (first | with_reducible rfl | exact True.intro | with_reducible refine And.intro ?_ ?_ | omega | assumption)) ; (first | done | fail))))
            | (with_reducible refine Br.mk (fun _ => ?_) (fun _ => ?_))
            | (with_reducible refine Both.mk ?_ ?_)
            | ((with_reducible apply blkAt_intro) ; (focus (first
            | exact rfl
            | ((repeat (first
            | assumption
            | exact get_new
            | exact get_set (by assumption)
            | exact get_set get_new
            | with_reducible apply get_set
            | apply get_set
            | apply get_old
            | (apply get_set_ne; (focus (first | omega | (simp only [newB_length, List.length_set, List.length_append, List.length_singleton, List.length_nil]; omega))))
            )); done)
            )) ; (focus (first | rfl | assumption | omega)) ; (try dsimp only))
            | ((with_reducible apply nthR_dat) ; (focus assumption))
            | ((with_reducible apply nthR_bs1) ; (focus assumption))
            | ((with_reducible apply nthR_is1) ; (focus assumption))
            | ((with_reducible apply appendR_lit) ; (focus (first
            | exact rfl
            | ((repeat (first
            | assumption
            | exact get_new
            | exact get_set (by assumption)
            | exact get_set get_new
            | with_reducible apply get_set
            | apply get_set
            | apply get_old
            | (apply get_set_ne; (focus (first | omega | (simp only [newB_length, List.length_set, List.length_append, List.length_singleton, List.length_nil]; omega))))
            )); done)
            )) ; (focus (first | rfl | assumption)) ; (focus rfl) ; (focus rfl) ; (focus rfl) ; (focus (first | exact Nat.zero_le _ | omega | (simp; done) | (simp; omega))) ; (try dsimp only))
            | (with_reducible refine appendR_nil ?_ ?_)
            | ((with_reducible apply lenR_own) ; (focus assumption))
            | ((with_reducible apply lenR_own) ; (focus (apply Own.upTo ; (focus assumption) ; (repeat (first | exact Gr.refl _ _ | assumption | with_reducible refine Gr.trans ?_ (Gr.boxN _ _ _ _ _) | refine Gr.setNew ?_ (by first | exact Nat.le_refl _ | (simp only [newB_length, List.length_set, List.length_append, List.length_singleton]; omega) | omega) _ | refine Gr.addN ?_ _ | refine Gr.newN ?_ _ _ _ | exact Gr.trans (by assumption) (by assumption) | refine Gr.trans ?_ (by assumption) | refine Gr.trans (by assumption) ?_)) ; (first | done | fail))))
            | ((with_reducible apply rowsR_own) ; (focus assumption))
            | ((with_reducible apply rowsR_own) ; (focus (apply Own.upTo ; (focus assumption) ; (repeat (first | exact Gr.refl _ _ | assumption | with_reducible refine Gr.trans ?_ (Gr.boxN _ _ _ _ _) | refine Gr.setNew ?_ (by first | exact Nat.le_refl _ | (simp only [newB_length, List.length_set, List.length_append, List.length_singleton]; omega) | omega) _ | refine Gr.addN ?_ _ | refine Gr.newN ?_ _ _ _ | exact Gr.trans (by assumption) (by assumption) | refine Gr.trans ?_ (by assumption) | refine Gr.trans (by assumption) ?_)) ; (first | done | fail))))
            | ((with_reducible apply ia_own) ; (focus assumption))
            | ((with_reducible apply ia_own) ; (focus (apply Own.upTo ; (focus assumption) ; (repeat (first | exact Gr.refl _ _ | assumption | with_reducible refine Gr.trans ?_ (Gr.boxN _ _ _ _ _) | refine Gr.setNew ?_ (by first | exact Nat.le_refl _ | (simp only [newB_length, List.length_set, List.length_append, List.length_singleton]; omega) | omega) _ | refine Gr.addN ?_ _ | refine Gr.newN ?_ _ _ _ | exact Gr.trans (by assumption) (by assumption) | refine Gr.trans ?_ (by assumption) | refine Gr.trans (by assumption) ?_)) ; (first | done | fail))))
            | (with_reducible refine ia_sl ?_ ?_)
            | (with_reducible refine IaW.of ?_)
            | (with_reducible refine SliceW.of ?_)
            | ((with_reducible apply AppC.raw) ; (focus assumption))
            | (with_reducible refine AppC.frz ?_)
            | (with_reducible refine EqnW.of ?_)
            | (with_reducible refine CopyW.of ?_)
            | ((with_reducible apply out_own) ; (focus assumption))
            | (with_reducible refine OutW.of ?_)
            | ((with_reducible apply NOut.own) ; (focus assumption))
            | (with_reducible refine NOut.lit ?_)
            | (with_reducible refine nthR_z ?_)
            | ((with_reducible apply nthR_left) ; (focus (first | omega | (simp only [List.length_append, List.length_cons, List.length_nil, List.length_take, List.length_drop, bs_length]; omega))))
            | (with_reducible refine lenR_sl ?_)
            | (with_reducible refine lenR_nils ?_)
            | (with_reducible refine lenR_rsl ?_)
            | (with_reducible refine rowsR_sl ?_)
            | (with_reducible refine rowsR_nils ?_)
            | (with_reducible refine rowsR_rsl ?_)
            | (with_reducible refine lenR_slx ?_)
            | (with_reducible refine rowsR_slx ?_)
            | (with_reducible refine appendR_slx ?_ ?_ ?_)
            | ((with_reducible apply bytesR_intro) ; (focus (first | rfl | (simp only [bs_take, bs_drop, bs_append]; rfl))))
            | ((with_reducible apply nthR_bs) ; (focus (first | omega | (simp only [List.length_append, List.length_cons, List.length_nil, List.length_take, List.length_drop, bs_length]; omega))))
            | (with_reducible intro _)
            ))
            )
          all_goals (conv => whnf)
          all_goals (try dsimp only)
          all_goals first
            | omega
            | exact ret_same rfl
    · have hil : i = l.length := by omega
      subst hil
      rw [List.take_length] at c1
      rw [List.take_length, c1]
      repeat' (first
        | ((with_reducible apply Gr.side) ; with_reducible assumption)
        | ((with_reducible apply Gr.side) ; (repeat (first | exact Gr.refl _ _ | assumption | with_reducible refine Gr.trans ?_ (Gr.boxN _ _ _ _ _) | refine Gr.setNew ?_ (by first | exact Nat.le_refl _ | (simp only [newB_length, List.length_set, List.length_append, List.length_singleton]; omega) | omega) _ | refine Gr.addN ?_ _ | refine Gr.newN ?_ _ _ _ | exact Gr.trans (by assumption) (by assumption) | refine Gr.trans ?_ (by assumption) | refine Gr.trans (by assumption) ?_)) ; (first | done | fail))
        | ((with_reducible refine Side.intro ?_) <;> (first
        | with_reducible rfl
        | omega
        | assumption
        | exact Nat.le_of_ble_eq_true rfl
        | (simp only [bs_length, List.length_append, List.length_cons, List.length_nil, List.length_take, List.length_drop, List.length_set, List.length_replicate]; omega)
        | exact .inl (by omega)
        | exact .inr (.inl ⟨rfl, by (simp only [bs_length, List.length_append, List.length_cons, List.length_nil, List.length_take, List.length_drop, List.length_set, List.length_replicate]; omega)⟩)
        | exact Ref.ok_refl _ _
        | (simp only [List.append_nil, List.nil_append, List.map_nil]; first | exact List.nodup_nil | exact nodup_bid1 _ | exact nodup_bid2 (by assumption))
        | ((first | refine fresh_tup ?_ | skip); (repeat (first |  exact FreshA.sl _ _ FreshA_bs | exact FreshA.sl _ _ FreshA_is | exact FreshA.nils | exact FreshA.nilp | exact FreshA.int _ _ | exact FreshA.bool _ | exact FreshA.str _ | exact fresh_nil | refine fresh_cons ?_ ?_ | with_reducible refine fresh_aggR ?_ | with_reducible refine fresh_agg ?_ | with_reducible exact fresh_nilA | with_reducible refine fresh_consA ?_ ?_)); done)
        | exact rfl
        | (simp; done)
        ))
        | ((conv => whnf) <;> (first
        | (with_reducible refine and_same ?_)
        | (with_reducible refine and_side ?_ ?_)
        | (with_reducible refine Br.yes rfl ?_)
        | ((with_reducible apply Br.yes) ; (focus omega))
        | ((with_reducible apply Br.no) ; (focus omega))
        | ((with_reducible apply Br.no) ; (focus assumption))
        | ((with_reducible apply Br.yes) ; (focus assumption))
        | ((with_reducible apply Br.yes) ; (focus ((with_reducible refine And.intro ?_ ?_) ; (repeat' (first | with_reducible rfl | exact True.intro | with_reducible refine And.intro ?_ ?_ | omega | assumption)) ; (first | done | fail))))
        | (with_reducible refine Br.mk (fun _ => ?_) (fun _ => ?_))
        | (with_reducible refine Both.mk ?_ ?_)
        | ((with_reducible apply blkAt_intro) ; (focus (first
        | exact rfl
        | ((repeat (first
        | assumption
        | exact get_new
        | exact get_set (by assumption)
        | exact get_set get_new
        | with_reducible apply get_set
        | apply get_set
        | apply get_old
        | (apply get_set_ne; (focus (first | omega | (simp only [newB_length, List.length_set, List.length_append, List.length_singleton, List.length_nil]; omega))))
        )); done)
        )) ; (focus (first | rfl | assumption | omega)) ; (try dsimp only))
        | ((with_reducible apply nthR_dat) ; (focus assumption))
        | ((with_reducible apply nthR_bs1) ; (focus assumption))
        | ((with_reducible apply nthR_is1) ; (focus assumption))
        | ((with_reducible apply appendR_lit) ; (focus (first
        | exact rfl
        | ((repeat (first
        | assumption
        | exact get_new
        | exact get_set (by assumption)
        | exact get_set get_new
        | with_reducible apply get_set
        | apply get_set
        | apply get_old
        | (apply get_set_ne; (focus (first | omega | (simp only [newB_length, List.length_set, List.length_append, List.length_singleton, List.length_nil]; omega))))
        )); done)
        )) ; (focus (first | rfl | assumption)) ; (focus rfl) ; (focus rfl) ; (focus rfl) ; (focus (first | exact Nat.zero_le _ | omega | (simp; done) | (simp; omega))) ; (try dsimp only))
        | (with_reducible refine appendR_nil ?_ ?_)
        | ((with_reducible apply lenR_own) ; (focus assumption))
        | ((with_reducible apply lenR_own) ; (focus (apply Own.upTo ; (focus assumption) ; (repeat (first | exact Gr.refl _ _ | assumption | with_reducible refine Gr.trans ?_ (Gr.boxN _ _ _ _ _) | refine Gr.setNew ?_ (by first | exact Nat.le_refl _ | (simp only [newB_length, List.length_set, List.length_append, List.length_singleton]; omega) | omega) _ | refine Gr.addN ?_ _ | refine Gr.newN ?_ _ _ _ | exact Gr.trans (by assumption) (by assumption) | refine Gr.trans ?_ (by assumption) | refine Gr.trans (by assumption) ?_)) ; (first | done | fail))))
        | ((with_reducible apply rowsR_own) ; (focus assumption))
        | ((with_reducible apply rowsR_own) ; (focus (apply Own.upTo ; (focus assumption) ; (repeat (first | exact Gr.refl _ _ | assumption | with_reducible refine Gr.trans ?_ (Gr.boxN _ _ _ _ _) | refine Gr.setNew ?_ (by first | exact Nat.le_refl _ | (simp only [newB_length, List.length_set, List.length_append, List.length_singleton]; omega) | omega) _ | refine Gr.addN ?_ _ | refine Gr.newN ?_ _ _ _ | exact Gr.trans (by assumption) (by assumption) | refine Gr.trans ?_ (by assumption) | refine Gr.trans (by assumption) ?_)) ; (first | done | fail))))
        | ((with_reducible apply ia_own) ; (focus assumption))
        | ((with_reducible apply ia_own) ; (focus (apply Own.upTo ; (focus assumption) ; (repeat (first | exact Gr.refl _ _ | assumption | with_reducible refine Gr.trans ?_ (Gr.boxN _ _ _ _ _) | refine Gr.setNew ?_ (by first | exact Nat.le_refl _ | (simp only [newB_length, List.length_set, List.length_append, List.length_singleton]; omega) | omega) _ | refine Gr.addN ?_ _ | refine Gr.newN ?_ _ _ _ | exact Gr.trans (by assumption) (by assumption) | refine Gr.trans ?_ (by assumption) | refine Gr.trans (by assumption) ?_)) ; (first | done | fail))))
        | (with_reducible refine ia_sl ?_ ?_)
        | (with_reducible refine IaW.of ?_)
        | (with_reducible refine SliceW.of ?_)
        | ((with_reducible apply AppC.raw) ; (focus assumption))
        | (with_reducible refine AppC.frz ?_)
        | (with_reducible refine EqnW.of ?_)
        | (with_reducible refine CopyW.of ?_)
        | ((with_reducible apply out_own) ; (focus assumption))
        | (with_reducible refine OutW.of ?_)
        | ((with_reducible apply NOut.own) ; (focus assumption))
        | (with_reducible refine NOut.lit ?_)
        | (with_reducible refine nthR_z ?_)
        | ((with_reducible apply nthR_left) ; (focus (first | omega | (simp only [List.length_append, List.length_cons, List.length_nil, List.length_take, List.length_drop, bs_length]; omega))))
        | (with_reducible refine lenR_sl ?_)
        | (with_reducible refine lenR_nils ?_)
        | (with_reducible refine lenR_rsl ?_)
        | (with_reducible refine rowsR_sl ?_)
        | (with_reducible refine rowsR_nils ?_)
        | (with_reducible refine rowsR_rsl ?_)
        | (with_reducible refine lenR_slx ?_)
        | (with_reducible refine rowsR_slx ?_)
        | (with_reducible refine appendR_slx ?_ ?_ ?_)
        | ((with_reducible apply bytesR_intro) ; (focus (first | rfl | (simp only [bs_take, bs_drop, bs_append]; rfl))))
        | ((with_reducible apply nthR_bs) ; (focus (first | omega | (simp only [List.length_append, List.length_cons, List.length_nil, List.length_take, List.length_drop, bs_length]; omega))))
        | (with_reducible intro _)
        ))
        )
      all_goals (conv => whnf)
      all_goals (try dsimp only)
      exact ret_same rfl
theorem RBits_call (c : Int) (l : List Int) (hl : l.length ≤ 4611686018) {σ : AH} {x : AV} (hx : Looks σ x (.sl 1 (is l) false)) {Q : AV → AH → Prop} (h : ∀ σ', Gr σ σ' none → Q (.tup [.int .i64 (btV c l), .int .i64 (btEr c l)]) σ') : CallS Try.prog F.joistref15_Bits [.int .i64 c, x] σ Q :=
  call_two (RBits_ok c l hl) (.cons (.int _ _ _) (.cons hx .nil)) rfl rfl h
end Go.Proofs.Ytabdieanlhecoaa
