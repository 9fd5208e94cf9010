import Derived.Test.YtjbfdhnfdehdeaaPtagsq
namespace Go.Proofs.Ytjbfdhnfdehdeaa
open Go Go.Proofs.Ytjbfdhnfdehdeaa.V
set_option maxRecDepth 20000
attribute [local irreducible] CallS AOK AOKn ALoop Side Ref.ok
set_option maxHeartbeats 4000000 in
theorem TWrite_ok (fr to : Int) (U : List (Int × Int × Int)) (D : List (List UInt8)) (hU : U.length ≤ 4611) (hD : D.length ≤ 4611686) (hd : ∀ d, d ∈ D → d.length ≤ 4611686018) : AOKn Try.prog F.tags_Write [.int .i64 fr, .int .i64 to, .sl 3 (bk U) false, .sl 1 (dat D) false] fun y => y = .tup [.sl 1 (bs (twR fr to U D)) true, .sl 1 (is (twH fr to U D)) true, .int .i64 (twE fr to U D)] := by
  have hn := bk_length U
  have hm := dat_length D
  refine AOKn.by_steps mixed fc_tags_Write_ok (by simp [fc_tags_Write]) ?_
  repeat' (first
    | ((with_reducible apply Gr.side) ; with_reducible assumption)
    | ((with_reducible apply Gr.side) ; (repeat (first | exact Gr.refl _ _ | assumption | with_reducible refine Gr.trans ?_ (Gr.boxN _ _ _ _ _) | refine Gr.setNew ?_ (by first | exact Nat.le_refl _ | (simp only [newB_length, List.length_set, List.length_append, List.length_singleton]; omega) | omega) _ | refine Gr.addN ?_ _ | refine Gr.newN ?_ _ _ _ | exact Gr.trans (by assumption) (by assumption) | refine Gr.trans ?_ (by assumption) | refine Gr.trans (by assumption) ?_)) ; (first | done | fail))
    | ((with_reducible refine Side.intro ?_) <;> (first
    | with_reducible rfl
    | omega
    | assumption
    | exact Nat.le_of_ble_eq_true rfl
    | (simp only [bs_length, List.length_append, List.length_cons, List.length_nil, List.length_take, List.length_drop, List.length_set, List.length_replicate]; omega)
    | exact .inl (by omega)
    | exact .inr (.inl ⟨rfl, by (simp only [bs_length, List.length_append, List.length_cons, List.length_nil, List.length_take, List.length_drop, List.length_set, List.length_replicate]; omega)⟩)
    | exact Ref.ok_refl _ _
    | (simp only [List.append_nil, List.nil_append, List.map_nil]; first | exact List.nodup_nil | exact nodup_bid1 _ | exact nodup_bid2 (by assumption))
    | ((first | refine fresh_tup ?_ | skip); (repeat (first | exact fresh_sp _ |  exact FreshA.sl _ _ FreshA_bs | exact FreshA.sl _ _ FreshA_is | exact FreshA.nils | exact FreshA.nilp | exact FreshA.int _ _ | exact FreshA.bool _ | exact FreshA.str _ | exact fresh_nil | refine fresh_cons ?_ ?_ | with_reducible refine fresh_aggR ?_ | with_reducible refine fresh_agg ?_ | with_reducible exact fresh_nilA | with_reducible refine fresh_consA ?_ ?_)); done)
    | exact rfl
    | (simp; done)
    ))
    | ((conv => whnf) <;> (first
    | (with_reducible refine and_same ?_)
    | (with_reducible refine and_side ?_ ?_)
    | (with_reducible refine Br.yes rfl ?_)
    | ((with_reducible apply Br.yes) ; (focus omega))
    | ((with_reducible apply Br.no) ; (focus omega))
    | ((with_reducible apply Br.no) ; (focus assumption))
    | ((with_reducible apply Br.yes) ; (focus assumption))
    | ((with_reducible apply Br.yes) ; (focus ((with_reducible refine And.intro ?_ ?_) ; (repeat' (first | with_reducible rfl | exact True.intro | with_reducible refine And.intro ?_ ?_ | omega | assumption)) ; (first | done | fail))))
    | (with_reducible refine Br.mk (fun _ => ?_) (fun _ => ?_))
    | (with_reducible refine Both.mk ?_ ?_)
    | ((with_reducible apply blkAt_intro) ; (focus (first
    | exact rfl
    | ((repeat (first
    | assumption
    | exact get_new
    | exact get_set (by assumption)
    | exact get_set get_new
    | with_reducible apply get_set
    | apply get_set
    | apply get_old
    | (apply get_set_ne; (focus (first | omega | (simp only [newB_length, List.length_set, List.length_append, List.length_singleton, List.length_nil]; omega))))
    )); done)
    )) ; (focus (first | rfl | assumption | omega)) ; (try dsimp only))
    | ((with_reducible apply nthR_sp) ; (focus assumption))
    | ((with_reducible apply nthR_bk) ; (focus assumption))
    | ((with_reducible apply nthR_dat) ; (focus assumption))
    | ((with_reducible apply nthR_bs1) ; (focus assumption))
    | ((with_reducible apply nthR_is1) ; (focus assumption))
    | ((with_reducible apply appendR_lit) ; (focus (first
    | exact rfl
    | ((repeat (first
    | assumption
    | exact get_new
    | exact get_set (by assumption)
    | exact get_set get_new
    | with_reducible apply get_set
    | apply get_set
    | apply get_old
    | (apply get_set_ne; (focus (first | omega | (simp only [newB_length, List.length_set, List.length_append, List.length_singleton, List.length_nil]; omega))))
    )); done)
    )) ; (focus (first | rfl | assumption)) ; (focus rfl) ; (focus rfl) ; (focus rfl) ; (focus (first | exact Nat.zero_le _ | omega | (simp; done) | (simp; omega))) ; (try dsimp only))
    | (with_reducible refine appendR_nil ?_ ?_)
    | ((with_reducible apply lenR_own) ; (focus assumption))
    | ((with_reducible apply lenR_own) ; (focus (apply Own.upTo ; (focus assumption) ; (repeat (first | exact Gr.refl _ _ | assumption | with_reducible refine Gr.trans ?_ (Gr.boxN _ _ _ _ _) | refine Gr.setNew ?_ (by first | exact Nat.le_refl _ | (simp only [newB_length, List.length_set, List.length_append, List.length_singleton]; omega) | omega) _ | refine Gr.addN ?_ _ | refine Gr.newN ?_ _ _ _ | exact Gr.trans (by assumption) (by assumption) | refine Gr.trans ?_ (by assumption) | refine Gr.trans (by assumption) ?_)) ; (first | done | fail))))
    | ((with_reducible apply rowsR_own) ; (focus assumption))
    | ((with_reducible apply rowsR_own) ; (focus (apply Own.upTo ; (focus assumption) ; (repeat (first | exact Gr.refl _ _ | assumption | with_reducible refine Gr.trans ?_ (Gr.boxN _ _ _ _ _) | refine Gr.setNew ?_ (by first | exact Nat.le_refl _ | (simp only [newB_length, List.length_set, List.length_append, List.length_singleton]; omega) | omega) _ | refine Gr.addN ?_ _ | refine Gr.newN ?_ _ _ _ | exact Gr.trans (by assumption) (by assumption) | refine Gr.trans ?_ (by assumption) | refine Gr.trans (by assumption) ?_)) ; (first | done | fail))))
    | ((with_reducible apply ia_own) ; (focus assumption))
    | ((with_reducible apply ia_own) ; (focus (apply Own.upTo ; (focus assumption) ; (repeat (first | exact Gr.refl _ _ | assumption | with_reducible refine Gr.trans ?_ (Gr.boxN _ _ _ _ _) | refine Gr.setNew ?_ (by first | exact Nat.le_refl _ | (simp only [newB_length, List.length_set, List.length_append, List.length_singleton]; omega) | omega) _ | refine Gr.addN ?_ _ | refine Gr.newN ?_ _ _ _ | exact Gr.trans (by assumption) (by assumption) | refine Gr.trans ?_ (by assumption) | refine Gr.trans (by assumption) ?_)) ; (first | done | fail))))
    | (with_reducible refine ia_sl ?_ ?_)
    | ((with_reducible apply NestR.ia) ; (focus assumption))
    | ((with_reducible apply NestR.lenW) ; (focus assumption))
    | ((with_reducible apply NestR.rowsW) ; (focus assumption))
    | ((with_reducible apply nest_nth) ; (focus assumption))
    | (with_reducible refine IaW.of ?_)
    | (with_reducible refine SliceW.of ?_)
    | ((with_reducible apply AppC.raw) ; (focus assumption))
    | (with_reducible refine AppC.frz ?_)
    | (with_reducible refine EqnW.of ?_)
    | ((with_reducible apply out_own) ; (focus assumption))
    | (with_reducible refine OutW.of ?_)
    | ((with_reducible apply NOut.own) ; (focus assumption))
    | (with_reducible refine NOut.lit ?_)
    | (with_reducible refine nthR_z ?_)
    | ((with_reducible apply nthR_left) ; (focus (first | omega | (simp only [List.length_append, List.length_cons, List.length_nil, List.length_take, List.length_drop, bs_length]; omega))))
    | (with_reducible refine lenR_sl ?_)
    | (with_reducible refine lenR_nils ?_)
    | (with_reducible refine lenR_rsl ?_)
    | (with_reducible refine rowsR_sl ?_)
    | (with_reducible refine rowsR_nils ?_)
    | (with_reducible refine rowsR_rsl ?_)
    | (with_reducible refine lenR_slx ?_)
    | (with_reducible refine rowsR_slx ?_)
    | (with_reducible refine appendR_slx ?_ ?_ ?_)
    | ((with_reducible apply bytesR_intro) ; (focus (first | rfl | (simp only [bs_take, bs_drop, bs_append]; rfl))))
    | ((with_reducible apply nthR_bs) ; (focus (first | omega | (simp only [List.length_append, List.length_cons, List.length_nil, List.length_take, List.length_drop, bs_length]; omega))))
    | (with_reducible intro _)
    ))
    )
  all_goals (conv => whnf)
  all_goals (try dsimp only)
  refine tright_call fr to U D (by omega) hD hd (Looks.bk _ _ _) (Looks.dat _ _ _) fun H1 hg1 => ?_
  cases hr : rT fr to U D
  · rw [twR, twH, twE, hr]
    repeat' (first
      | ((with_reducible apply Gr.side) ; with_reducible assumption)
      | ((with_reducible apply Gr.side) ; (repeat (first | exact Gr.refl _ _ | assumption | with_reducible refine Gr.trans ?_ (Gr.boxN _ _ _ _ _) | refine Gr.setNew ?_ (by first | exact Nat.le_refl _ | (simp only [newB_length, List.length_set, List.length_append, List.length_singleton]; omega) | omega) _ | refine Gr.addN ?_ _ | refine Gr.newN ?_ _ _ _ | exact Gr.trans (by assumption) (by assumption) | refine Gr.trans ?_ (by assumption) | refine Gr.trans (by assumption) ?_)) ; (first | done | fail))
      | ((with_reducible refine Side.intro ?_) <;> (first
      | with_reducible rfl
      | omega
      | assumption
      | exact Nat.le_of_ble_eq_true rfl
      | (simp only [bs_length, List.length_append, List.length_cons, List.length_nil, List.length_take, List.length_drop, List.length_set, List.length_replicate]; omega)
      | exact .inl (by omega)
      | exact .inr (.inl ⟨rfl, by (simp only [bs_length, List.length_append, List.length_cons, List.length_nil, List.length_take, List.length_drop, List.length_set, List.length_replicate]; omega)⟩)
      | exact Ref.ok_refl _ _
      | (simp only [List.append_nil, List.nil_append, List.map_nil]; first | exact List.nodup_nil | exact nodup_bid1 _ | exact nodup_bid2 (by assumption))
      | ((first | refine fresh_tup ?_ | skip); (repeat (first | exact fresh_sp _ |  exact FreshA.sl _ _ FreshA_bs | exact FreshA.sl _ _ FreshA_is | exact FreshA.nils | exact FreshA.nilp | exact FreshA.int _ _ | exact FreshA.bool _ | exact FreshA.str _ | exact fresh_nil | refine fresh_cons ?_ ?_ | with_reducible refine fresh_aggR ?_ | with_reducible refine fresh_agg ?_ | with_reducible exact fresh_nilA | with_reducible refine fresh_consA ?_ ?_)); done)
      | exact rfl
      | (simp; done)
      ))
      | ((conv => whnf) <;> (first
      | (with_reducible refine and_same ?_)
      | (with_reducible refine and_side ?_ ?_)
      | (with_reducible refine Br.yes rfl ?_)
      | ((with_reducible apply Br.yes) ; (focus omega))
      | ((with_reducible apply Br.no) ; (focus omega))
      | ((with_reducible apply Br.no) ; (focus assumption))
      | ((with_reducible apply Br.yes) ; (focus assumption))
      | ((with_reducible apply Br.yes) ; (focus ((with_reducible refine And.intro ?_ ?_) ; (repeat' (first | with_reducible rfl | exact True.intro | with_reducible refine And.intro ?_ ?_ | omega | assumption)) ; (first | done | fail))))
      | (with_reducible refine Br.mk (fun _ => ?_) (fun _ => ?_))
      | (with_reducible refine Both.mk ?_ ?_)
      | ((with_reducible apply blkAt_intro) ; (focus (first
      | exact rfl
      | ((repeat (first
      | assumption
      | exact get_new
      | exact get_set (by assumption)
      | exact get_set get_new
      | with_reducible apply get_set
      | apply get_set
      | apply get_old
      | (apply get_set_ne; (focus (first | omega | (simp only [newB_length, List.length_set, List.length_append, List.length_singleton, List.length_nil]; omega))))
      )); done)
      )) ; (focus (first | rfl | assumption | omega)) ; (try dsimp only))
      | ((with_reducible apply nthR_sp) ; (focus assumption))
      | ((with_reducible apply nthR_bk) ; (focus assumption))
      | ((with_reducible apply nthR_dat) ; (focus assumption))
      | ((with_reducible apply nthR_bs1) ; (focus assumption))
      | ((with_reducible apply nthR_is1) ; (focus assumption))
      | ((with_reducible apply appendR_lit) ; (focus (first
      | exact rfl
      | ((repeat (first
      | assumption
      | exact get_new
      | exact get_set (by assumption)
      | exact get_set get_new
      | with_reducible apply get_set
      | apply get_set
      | apply get_old
      | (apply get_set_ne; (focus (first | omega | (simp only [newB_length, List.length_set, List.length_append, List.length_singleton, List.length_nil]; omega))))
      )); done)
      )) ; (focus (first | rfl | assumption)) ; (focus rfl) ; (focus rfl) ; (focus rfl) ; (focus (first | exact Nat.zero_le _ | omega | (simp; done) | (simp; omega))) ; (try dsimp only))
      | (with_reducible refine appendR_nil ?_ ?_)
      | ((with_reducible apply lenR_own) ; (focus assumption))
      | ((with_reducible apply lenR_own) ; (focus (apply Own.upTo ; (focus assumption) ; (repeat (first | exact Gr.refl _ _ | assumption | with_reducible refine Gr.trans ?_ (Gr.boxN _ _ _ _ _) | refine Gr.setNew ?_ (by first | exact Nat.le_refl _ | (simp only [newB_length, List.length_set, List.length_append, List.length_singleton]; omega) | omega) _ | refine Gr.addN ?_ _ | refine Gr.newN ?_ _ _ _ | exact Gr.trans (by assumption) (by assumption) | refine Gr.trans ?_ (by assumption) | refine Gr.trans (by assumption) ?_)) ; (first | done | fail))))
      | ((with_reducible apply rowsR_own) ; (focus assumption))
      | ((with_reducible apply rowsR_own) ; (focus (apply Own.upTo ; (focus assumption) ; (repeat (first | exact Gr.refl _ _ | assumption | with_reducible refine Gr.trans ?_ (Gr.boxN _ _ _ _ _) | refine Gr.setNew ?_ (by first | exact Nat.le_refl _ | (simp only [newB_length, List.length_set, List.length_append, List.length_singleton]; omega) | omega) _ | refine Gr.addN ?_ _ | refine Gr.newN ?_ _ _ _ | exact Gr.trans (by assumption) (by assumption) | refine Gr.trans ?_ (by assumption) | refine Gr.trans (by assumption) ?_)) ; (first | done | fail))))
      | ((with_reducible apply ia_own) ; (focus assumption))
      | ((with_reducible apply ia_own) ; (focus (apply Own.upTo ; (focus assumption) ; (repeat (first | exact Gr.refl _ _ | assumption | with_reducible refine Gr.trans ?_ (Gr.boxN _ _ _ _ _) | refine Gr.setNew ?_ (by first | exact Nat.le_refl _ | (simp only [newB_length, List.length_set, List.length_append, List.length_singleton]; omega) | omega) _ | refine Gr.addN ?_ _ | refine Gr.newN ?_ _ _ _ | exact Gr.trans (by assumption) (by assumption) | refine Gr.trans ?_ (by assumption) | refine Gr.trans (by assumption) ?_)) ; (first | done | fail))))
      | (with_reducible refine ia_sl ?_ ?_)
      | ((with_reducible apply NestR.ia) ; (focus assumption))
      | ((with_reducible apply NestR.lenW) ; (focus assumption))
      | ((with_reducible apply NestR.rowsW) ; (focus assumption))
      | ((with_reducible apply nest_nth) ; (focus assumption))
      | (with_reducible refine IaW.of ?_)
      | (with_reducible refine SliceW.of ?_)
      | ((with_reducible apply AppC.raw) ; (focus assumption))
      | (with_reducible refine AppC.frz ?_)
      | (with_reducible refine EqnW.of ?_)
      | ((with_reducible apply out_own) ; (focus assumption))
      | (with_reducible refine OutW.of ?_)
      | ((with_reducible apply NOut.own) ; (focus assumption))
      | (with_reducible refine NOut.lit ?_)
      | (with_reducible refine nthR_z ?_)
      | ((with_reducible apply nthR_left) ; (focus (first | omega | (simp only [List.length_append, List.length_cons, List.length_nil, List.length_take, List.length_drop, bs_length]; omega))))
      | (with_reducible refine lenR_sl ?_)
      | (with_reducible refine lenR_nils ?_)
      | (with_reducible refine lenR_rsl ?_)
      | (with_reducible refine rowsR_sl ?_)
      | (with_reducible refine rowsR_nils ?_)
      | (with_reducible refine rowsR_rsl ?_)
      | (with_reducible refine lenR_slx ?_)
      | (with_reducible refine rowsR_slx ?_)
      | (with_reducible refine appendR_slx ?_ ?_ ?_)
      | ((with_reducible apply bytesR_intro) ; (focus (first | rfl | (simp only [bs_take, bs_drop, bs_append]; rfl))))
      | ((with_reducible apply nthR_bs) ; (focus (first | omega | (simp only [List.length_append, List.length_cons, List.length_nil, List.length_take, List.length_drop, bs_length]; omega))))
      | (with_reducible intro _)
      ))
      )
    all_goals (conv => whnf)
    all_goals (try dsimp only)
    exact ⟨_, .tup (.cons (.nil _ _) (.cons (.nil _ _) (.cons (.refl _) .nil))), rfl⟩
  · rw [twR, twH, twE, hr]
    have T := rT_tg hr
    have hrg : rG fr to (spo U) = true := (rT_iff.1 hr).1
    have hgl := T.glen
    have hgo := T.gok
    obtain ⟨t1, t2, t3, t4, t5, t6, t7, t8⟩ := id T
    repeat' (first
      | ((with_reducible apply Gr.side) ; with_reducible assumption)
      | ((with_reducible apply Gr.side) ; (repeat (first | exact Gr.refl _ _ | assumption | with_reducible refine Gr.trans ?_ (Gr.boxN _ _ _ _ _) | refine Gr.setNew ?_ (by first | exact Nat.le_refl _ | (simp only [newB_length, List.length_set, List.length_append, List.length_singleton]; omega) | omega) _ | refine Gr.addN ?_ _ | refine Gr.newN ?_ _ _ _ | exact Gr.trans (by assumption) (by assumption) | refine Gr.trans ?_ (by assumption) | refine Gr.trans (by assumption) ?_)) ; (first | done | fail))
      | ((with_reducible refine Side.intro ?_) <;> (first
      | with_reducible rfl
      | omega
      | assumption
      | exact Nat.le_of_ble_eq_true rfl
      | (simp only [bs_length, List.length_append, List.length_cons, List.length_nil, List.length_take, List.length_drop, List.length_set, List.length_replicate]; omega)
      | exact .inl (by omega)
      | exact .inr (.inl ⟨rfl, by (simp only [bs_length, List.length_append, List.length_cons, List.length_nil, List.length_take, List.length_drop, List.length_set, List.length_replicate]; omega)⟩)
      | exact Ref.ok_refl _ _
      | (simp only [List.append_nil, List.nil_append, List.map_nil]; first | exact List.nodup_nil | exact nodup_bid1 _ | exact nodup_bid2 (by assumption))
      | ((first | refine fresh_tup ?_ | skip); (repeat (first | exact fresh_sp _ |  exact FreshA.sl _ _ FreshA_bs | exact FreshA.sl _ _ FreshA_is | exact FreshA.nils | exact FreshA.nilp | exact FreshA.int _ _ | exact FreshA.bool _ | exact FreshA.str _ | exact fresh_nil | refine fresh_cons ?_ ?_ | with_reducible refine fresh_aggR ?_ | with_reducible refine fresh_agg ?_ | with_reducible exact fresh_nilA | with_reducible refine fresh_consA ?_ ?_)); done)
      | exact rfl
      | (simp; done)
      ))
      | ((conv => whnf) <;> (first
      | (with_reducible refine and_same ?_)
      | (with_reducible refine and_side ?_ ?_)
      | (with_reducible refine Br.yes rfl ?_)
      | ((with_reducible apply Br.yes) ; (focus omega))
      | ((with_reducible apply Br.no) ; (focus omega))
      | ((with_reducible apply Br.no) ; (focus assumption))
      | ((with_reducible apply Br.yes) ; (focus assumption))
      | ((with_reducible apply Br.yes) ; (focus ((with_reducible refine And.intro ?_ ?_) ; (repeat' (first | with_reducible rfl | exact True.intro | with_reducible refine And.intro ?_ ?_ | omega | assumption)) ; (first | done | fail))))
      | (with_reducible refine Br.mk (fun _ => ?_) (fun _ => ?_))
      | (with_reducible refine Both.mk ?_ ?_)
      | ((with_reducible apply blkAt_intro) ; (focus (first
      | exact rfl
      | ((repeat (first
      | assumption
      | exact get_new
      | exact get_set (by assumption)
      | exact get_set get_new
      | with_reducible apply get_set
      | apply get_set
      | apply get_old
      | (apply get_set_ne; (focus (first | omega | (simp only [newB_length, List.length_set, List.length_append, List.length_singleton, List.length_nil]; omega))))
      )); done)
      )) ; (focus (first | rfl | assumption | omega)) ; (try dsimp only))
      | ((with_reducible apply nthR_sp) ; (focus assumption))
      | ((with_reducible apply nthR_bk) ; (focus assumption))
      | ((with_reducible apply nthR_dat) ; (focus assumption))
      | ((with_reducible apply nthR_bs1) ; (focus assumption))
      | ((with_reducible apply nthR_is1) ; (focus assumption))
      | ((with_reducible apply appendR_lit) ; (focus (first
      | exact rfl
      | ((repeat (first
      | assumption
      | exact get_new
      | exact get_set (by assumption)
      | exact get_set get_new
      | with_reducible apply get_set
      | apply get_set
      | apply get_old
      | (apply get_set_ne; (focus (first | omega | (simp only [newB_length, List.length_set, List.length_append, List.length_singleton, List.length_nil]; omega))))
      )); done)
      )) ; (focus (first | rfl | assumption)) ; (focus rfl) ; (focus rfl) ; (focus rfl) ; (focus (first | exact Nat.zero_le _ | omega | (simp; done) | (simp; omega))) ; (try dsimp only))
      | (with_reducible refine appendR_nil ?_ ?_)
      | ((with_reducible apply lenR_own) ; (focus assumption))
      | ((with_reducible apply lenR_own) ; (focus (apply Own.upTo ; (focus assumption) ; (repeat (first | exact Gr.refl _ _ | assumption | with_reducible refine Gr.trans ?_ (Gr.boxN _ _ _ _ _) | refine Gr.setNew ?_ (by first | exact Nat.le_refl _ | (simp only [newB_length, List.length_set, List.length_append, List.length_singleton]; omega) | omega) _ | refine Gr.addN ?_ _ | refine Gr.newN ?_ _ _ _ | exact Gr.trans (by assumption) (by assumption) | refine Gr.trans ?_ (by assumption) | refine Gr.trans (by assumption) ?_)) ; (first | done | fail))))
      | ((with_reducible apply rowsR_own) ; (focus assumption))
      | ((with_reducible apply rowsR_own) ; (focus (apply Own.upTo ; (focus assumption) ; (repeat (first | exact Gr.refl _ _ | assumption | with_reducible refine Gr.trans ?_ (Gr.boxN _ _ _ _ _) | refine Gr.setNew ?_ (by first | exact Nat.le_refl _ | (simp only [newB_length, List.length_set, List.length_append, List.length_singleton]; omega) | omega) _ | refine Gr.addN ?_ _ | refine Gr.newN ?_ _ _ _ | exact Gr.trans (by assumption) (by assumption) | refine Gr.trans ?_ (by assumption) | refine Gr.trans (by assumption) ?_)) ; (first | done | fail))))
      | ((with_reducible apply ia_own) ; (focus assumption))
      | ((with_reducible apply ia_own) ; (focus (apply Own.upTo ; (focus assumption) ; (repeat (first | exact Gr.refl _ _ | assumption | with_reducible refine Gr.trans ?_ (Gr.boxN _ _ _ _ _) | refine Gr.setNew ?_ (by first | exact Nat.le_refl _ | (simp only [newB_length, List.length_set, List.length_append, List.length_singleton]; omega) | omega) _ | refine Gr.addN ?_ _ | refine Gr.newN ?_ _ _ _ | exact Gr.trans (by assumption) (by assumption) | refine Gr.trans ?_ (by assumption) | refine Gr.trans (by assumption) ?_)) ; (first | done | fail))))
      | (with_reducible refine ia_sl ?_ ?_)
      | ((with_reducible apply NestR.ia) ; (focus assumption))
      | ((with_reducible apply NestR.lenW) ; (focus assumption))
      | ((with_reducible apply NestR.rowsW) ; (focus assumption))
      | ((with_reducible apply nest_nth) ; (focus assumption))
      | (with_reducible refine IaW.of ?_)
      | (with_reducible refine SliceW.of ?_)
      | ((with_reducible apply AppC.raw) ; (focus assumption))
      | (with_reducible refine AppC.frz ?_)
      | (with_reducible refine EqnW.of ?_)
      | ((with_reducible apply out_own) ; (focus assumption))
      | (with_reducible refine OutW.of ?_)
      | ((with_reducible apply NOut.own) ; (focus assumption))
      | (with_reducible refine NOut.lit ?_)
      | (with_reducible refine nthR_z ?_)
      | ((with_reducible apply nthR_left) ; (focus (first | omega | (simp only [List.length_append, List.length_cons, List.length_nil, List.length_take, List.length_drop, bs_length]; omega))))
      | (with_reducible refine lenR_sl ?_)
      | (with_reducible refine lenR_nils ?_)
      | (with_reducible refine lenR_rsl ?_)
      | (with_reducible refine rowsR_sl ?_)
      | (with_reducible refine rowsR_nils ?_)
      | (with_reducible refine rowsR_rsl ?_)
      | (with_reducible refine lenR_slx ?_)
      | (with_reducible refine rowsR_slx ?_)
      | (with_reducible refine appendR_slx ?_ ?_ ?_)
      | ((with_reducible apply bytesR_intro) ; (focus (first | rfl | (simp only [bs_take, bs_drop, bs_append]; rfl))))
      | ((with_reducible apply nthR_bs) ; (focus (first | omega | (simp only [List.length_append, List.length_cons, List.length_nil, List.length_take, List.length_drop, bs_length]; omega))))
      | (with_reducible intro _)
      ))
      )
    all_goals (conv => whnf)
    all_goals (try dsimp only)
    refine spansOf_call U (by omega) (Looks.bk _ _ _) fun H2 y hg2 hy hyn => ?_
    repeat' (first
      | ((with_reducible apply Gr.side) ; with_reducible assumption)
      | ((with_reducible apply Gr.side) ; (repeat (first | exact Gr.refl _ _ | assumption | with_reducible refine Gr.trans ?_ (Gr.boxN _ _ _ _ _) | refine Gr.setNew ?_ (by first | exact Nat.le_refl _ | (simp only [newB_length, List.length_set, List.length_append, List.length_singleton]; omega) | omega) _ | refine Gr.addN ?_ _ | refine Gr.newN ?_ _ _ _ | exact Gr.trans (by assumption) (by assumption) | refine Gr.trans ?_ (by assumption) | refine Gr.trans (by assumption) ?_)) ; (first | done | fail))
      | ((with_reducible refine Side.intro ?_) <;> (first
      | with_reducible rfl
      | omega
      | assumption
      | exact Nat.le_of_ble_eq_true rfl
      | (simp only [bs_length, List.length_append, List.length_cons, List.length_nil, List.length_take, List.length_drop, List.length_set, List.length_replicate]; omega)
      | exact .inl (by omega)
      | exact .inr (.inl ⟨rfl, by (simp only [bs_length, List.length_append, List.length_cons, List.length_nil, List.length_take, List.length_drop, List.length_set, List.length_replicate]; omega)⟩)
      | exact Ref.ok_refl _ _
      | (simp only [List.append_nil, List.nil_append, List.map_nil]; first | exact List.nodup_nil | exact nodup_bid1 _ | exact nodup_bid2 (by assumption))
      | ((first | refine fresh_tup ?_ | skip); (repeat (first | exact fresh_sp _ |  exact FreshA.sl _ _ FreshA_bs | exact FreshA.sl _ _ FreshA_is | exact FreshA.nils | exact FreshA.nilp | exact FreshA.int _ _ | exact FreshA.bool _ | exact FreshA.str _ | exact fresh_nil | refine fresh_cons ?_ ?_ | with_reducible refine fresh_aggR ?_ | with_reducible refine fresh_agg ?_ | with_reducible exact fresh_nilA | with_reducible refine fresh_consA ?_ ?_)); done)
      | exact rfl
      | (simp; done)
      ))
      | ((conv => whnf) <;> (first
      | (with_reducible refine and_same ?_)
      | (with_reducible refine and_side ?_ ?_)
      | (with_reducible refine Br.yes rfl ?_)
      | ((with_reducible apply Br.yes) ; (focus omega))
      | ((with_reducible apply Br.no) ; (focus omega))
      | ((with_reducible apply Br.no) ; (focus assumption))
      | ((with_reducible apply Br.yes) ; (focus assumption))
      | ((with_reducible apply Br.yes) ; (focus ((with_reducible refine And.intro ?_ ?_) ; (repeat' (first | with_reducible rfl | exact True.intro | with_reducible refine And.intro ?_ ?_ | omega | assumption)) ; (first | done | fail))))
      | (with_reducible refine Br.mk (fun _ => ?_) (fun _ => ?_))
      | (with_reducible refine Both.mk ?_ ?_)
      | ((with_reducible apply blkAt_intro) ; (focus (first
      | exact rfl
      | ((repeat (first
      | assumption
      | exact get_new
      | exact get_set (by assumption)
      | exact get_set get_new
      | with_reducible apply get_set
      | apply get_set
      | apply get_old
      | (apply get_set_ne; (focus (first | omega | (simp only [newB_length, List.length_set, List.length_append, List.length_singleton, List.length_nil]; omega))))
      )); done)
      )) ; (focus (first | rfl | assumption | omega)) ; (try dsimp only))
      | ((with_reducible apply nthR_sp) ; (focus assumption))
      | ((with_reducible apply nthR_bk) ; (focus assumption))
      | ((with_reducible apply nthR_dat) ; (focus assumption))
      | ((with_reducible apply nthR_bs1) ; (focus assumption))
      | ((with_reducible apply nthR_is1) ; (focus assumption))
      | ((with_reducible apply appendR_lit) ; (focus (first
      | exact rfl
      | ((repeat (first
      | assumption
      | exact get_new
      | exact get_set (by assumption)
      | exact get_set get_new
      | with_reducible apply get_set
      | apply get_set
      | apply get_old
      | (apply get_set_ne; (focus (first | omega | (simp only [newB_length, List.length_set, List.length_append, List.length_singleton, List.length_nil]; omega))))
      )); done)
      )) ; (focus (first | rfl | assumption)) ; (focus rfl) ; (focus rfl) ; (focus rfl) ; (focus (first | exact Nat.zero_le _ | omega | (simp; done) | (simp; omega))) ; (try dsimp only))
      | (with_reducible refine appendR_nil ?_ ?_)
      | ((with_reducible apply lenR_own) ; (focus assumption))
      | ((with_reducible apply lenR_own) ; (focus (apply Own.upTo ; (focus assumption) ; (repeat (first | exact Gr.refl _ _ | assumption | with_reducible refine Gr.trans ?_ (Gr.boxN _ _ _ _ _) | refine Gr.setNew ?_ (by first | exact Nat.le_refl _ | (simp only [newB_length, List.length_set, List.length_append, List.length_singleton]; omega) | omega) _ | refine Gr.addN ?_ _ | refine Gr.newN ?_ _ _ _ | exact Gr.trans (by assumption) (by assumption) | refine Gr.trans ?_ (by assumption) | refine Gr.trans (by assumption) ?_)) ; (first | done | fail))))
      | ((with_reducible apply rowsR_own) ; (focus assumption))
      | ((with_reducible apply rowsR_own) ; (focus (apply Own.upTo ; (focus assumption) ; (repeat (first | exact Gr.refl _ _ | assumption | with_reducible refine Gr.trans ?_ (Gr.boxN _ _ _ _ _) | refine Gr.setNew ?_ (by first | exact Nat.le_refl _ | (simp only [newB_length, List.length_set, List.length_append, List.length_singleton]; omega) | omega) _ | refine Gr.addN ?_ _ | refine Gr.newN ?_ _ _ _ | exact Gr.trans (by assumption) (by assumption) | refine Gr.trans ?_ (by assumption) | refine Gr.trans (by assumption) ?_)) ; (first | done | fail))))
      | ((with_reducible apply ia_own) ; (focus assumption))
      | ((with_reducible apply ia_own) ; (focus (apply Own.upTo ; (focus assumption) ; (repeat (first | exact Gr.refl _ _ | assumption | with_reducible refine Gr.trans ?_ (Gr.boxN _ _ _ _ _) | refine Gr.setNew ?_ (by first | exact Nat.le_refl _ | (simp only [newB_length, List.length_set, List.length_append, List.length_singleton]; omega) | omega) _ | refine Gr.addN ?_ _ | refine Gr.newN ?_ _ _ _ | exact Gr.trans (by assumption) (by assumption) | refine Gr.trans ?_ (by assumption) | refine Gr.trans (by assumption) ?_)) ; (first | done | fail))))
      | (with_reducible refine ia_sl ?_ ?_)
      | ((with_reducible apply NestR.ia) ; (focus assumption))
      | ((with_reducible apply NestR.lenW) ; (focus assumption))
      | ((with_reducible apply NestR.rowsW) ; (focus assumption))
      | ((with_reducible apply nest_nth) ; (focus assumption))
      | (with_reducible refine IaW.of ?_)
      | (with_reducible refine SliceW.of ?_)
      | ((with_reducible apply AppC.raw) ; (focus assumption))
      | (with_reducible refine AppC.frz ?_)
      | (with_reducible refine EqnW.of ?_)
      | ((with_reducible apply out_own) ; (focus assumption))
      | (with_reducible refine OutW.of ?_)
      | ((with_reducible apply NOut.own) ; (focus assumption))
      | (with_reducible refine NOut.lit ?_)
      | (with_reducible refine nthR_z ?_)
      | ((with_reducible apply nthR_left) ; (focus (first | omega | (simp only [List.length_append, List.length_cons, List.length_nil, List.length_take, List.length_drop, bs_length]; omega))))
      | (with_reducible refine lenR_sl ?_)
      | (with_reducible refine lenR_nils ?_)
      | (with_reducible refine lenR_rsl ?_)
      | (with_reducible refine rowsR_sl ?_)
      | (with_reducible refine rowsR_nils ?_)
      | (with_reducible refine rowsR_rsl ?_)
      | (with_reducible refine lenR_slx ?_)
      | (with_reducible refine rowsR_slx ?_)
      | (with_reducible refine appendR_slx ?_ ?_ ?_)
      | ((with_reducible apply bytesR_intro) ; (focus (first | rfl | (simp only [bs_take, bs_drop, bs_append]; rfl))))
      | ((with_reducible apply nthR_bs) ; (focus (first | omega | (simp only [List.length_append, List.length_cons, List.length_nil, List.length_take, List.length_drop, bs_length]; omega))))
      | (with_reducible intro _)
      ))
      )
    all_goals (conv => whnf)
    all_goals (try dsimp only)
    refine call_sl1 (gaps_Gaps_ok fr to (spo U) (by rw [spo_length]; omega)) (.cons (.int _ _ _) (.cons (.int _ _ _) (.cons (Looks.ownsp hy) .nil))) rfl fun H3 z hg3 hz hzn => ?_
    rw [gapR, hrg, if_pos rfl, gp_eq] at hz
    repeat' (first
      | ((with_reducible apply Gr.side) ; with_reducible assumption)
      | ((with_reducible apply Gr.side) ; (repeat (first | exact Gr.refl _ _ | assumption | with_reducible refine Gr.trans ?_ (Gr.boxN _ _ _ _ _) | refine Gr.setNew ?_ (by first | exact Nat.le_refl _ | (simp only [newB_length, List.length_set, List.length_append, List.length_singleton]; omega) | omega) _ | refine Gr.addN ?_ _ | refine Gr.newN ?_ _ _ _ | exact Gr.trans (by assumption) (by assumption) | refine Gr.trans ?_ (by assumption) | refine Gr.trans (by assumption) ?_)) ; (first | done | fail))
      | ((with_reducible refine Side.intro ?_) <;> (first
      | with_reducible rfl
      | omega
      | assumption
      | exact Nat.le_of_ble_eq_true rfl
      | (simp only [bs_length, List.length_append, List.length_cons, List.length_nil, List.length_take, List.length_drop, List.length_set, List.length_replicate]; omega)
      | exact .inl (by omega)
      | exact .inr (.inl ⟨rfl, by (simp only [bs_length, List.length_append, List.length_cons, List.length_nil, List.length_take, List.length_drop, List.length_set, List.length_replicate]; omega)⟩)
      | exact Ref.ok_refl _ _
      | (simp only [List.append_nil, List.nil_append, List.map_nil]; first | exact List.nodup_nil | exact nodup_bid1 _ | exact nodup_bid2 (by assumption))
      | ((first | refine fresh_tup ?_ | skip); (repeat (first | exact fresh_sp _ |  exact FreshA.sl _ _ FreshA_bs | exact FreshA.sl _ _ FreshA_is | exact FreshA.nils | exact FreshA.nilp | exact FreshA.int _ _ | exact FreshA.bool _ | exact FreshA.str _ | exact fresh_nil | refine fresh_cons ?_ ?_ | with_reducible refine fresh_aggR ?_ | with_reducible refine fresh_agg ?_ | with_reducible exact fresh_nilA | with_reducible refine fresh_consA ?_ ?_)); done)
      | exact rfl
      | (simp; done)
      ))
      | ((conv => whnf) <;> (first
      | (with_reducible refine and_same ?_)
      | (with_reducible refine and_side ?_ ?_)
      | (with_reducible refine Br.yes rfl ?_)
      | ((with_reducible apply Br.yes) ; (focus omega))
      | ((with_reducible apply Br.no) ; (focus omega))
      | ((with_reducible apply Br.no) ; (focus assumption))
      | ((with_reducible apply Br.yes) ; (focus assumption))
      | ((with_reducible apply Br.yes) ; (focus ((with_reducible refine And.intro ?_ ?_) ; (repeat' (first | with_reducible rfl | exact True.intro | with_reducible refine And.intro ?_ ?_ | omega | assumption)) ; (first | done | fail))))
      | (with_reducible refine Br.mk (fun _ => ?_) (fun _ => ?_))
      | (with_reducible refine Both.mk ?_ ?_)
      | ((with_reducible apply blkAt_intro) ; (focus (first
      | exact rfl
      | ((repeat (first
      | assumption
      | exact get_new
      | exact get_set (by assumption)
      | exact get_set get_new
      | with_reducible apply get_set
      | apply get_set
      | apply get_old
      | (apply get_set_ne; (focus (first | omega | (simp only [newB_length, List.length_set, List.length_append, List.length_singleton, List.length_nil]; omega))))
      )); done)
      )) ; (focus (first | rfl | assumption | omega)) ; (try dsimp only))
      | ((with_reducible apply nthR_sp) ; (focus assumption))
      | ((with_reducible apply nthR_bk) ; (focus assumption))
      | ((with_reducible apply nthR_dat) ; (focus assumption))
      | ((with_reducible apply nthR_bs1) ; (focus assumption))
      | ((with_reducible apply nthR_is1) ; (focus assumption))
      | ((with_reducible apply appendR_lit) ; (focus (first
      | exact rfl
      | ((repeat (first
      | assumption
      | exact get_new
      | exact get_set (by assumption)
      | exact get_set get_new
      | with_reducible apply get_set
      | apply get_set
      | apply get_old
      | (apply get_set_ne; (focus (first | omega | (simp only [newB_length, List.length_set, List.length_append, List.length_singleton, List.length_nil]; omega))))
      )); done)
      )) ; (focus (first | rfl | assumption)) ; (focus rfl) ; (focus rfl) ; (focus rfl) ; (focus (first | exact Nat.zero_le _ | omega | (simp; done) | (simp; omega))) ; (try dsimp only))
      | (with_reducible refine appendR_nil ?_ ?_)
      | ((with_reducible apply lenR_own) ; (focus assumption))
      | ((with_reducible apply lenR_own) ; (focus (apply Own.upTo ; (focus assumption) ; (repeat (first | exact Gr.refl _ _ | assumption | with_reducible refine Gr.trans ?_ (Gr.boxN _ _ _ _ _) | refine Gr.setNew ?_ (by first | exact Nat.le_refl _ | (simp only [newB_length, List.length_set, List.length_append, List.length_singleton]; omega) | omega) _ | refine Gr.addN ?_ _ | refine Gr.newN ?_ _ _ _ | exact Gr.trans (by assumption) (by assumption) | refine Gr.trans ?_ (by assumption) | refine Gr.trans (by assumption) ?_)) ; (first | done | fail))))
      | ((with_reducible apply rowsR_own) ; (focus assumption))
      | ((with_reducible apply rowsR_own) ; (focus (apply Own.upTo ; (focus assumption) ; (repeat (first | exact Gr.refl _ _ | assumption | with_reducible refine Gr.trans ?_ (Gr.boxN _ _ _ _ _) | refine Gr.setNew ?_ (by first | exact Nat.le_refl _ | (simp only [newB_length, List.length_set, List.length_append, List.length_singleton]; omega) | omega) _ | refine Gr.addN ?_ _ | refine Gr.newN ?_ _ _ _ | exact Gr.trans (by assumption) (by assumption) | refine Gr.trans ?_ (by assumption) | refine Gr.trans (by assumption) ?_)) ; (first | done | fail))))
      | ((with_reducible apply ia_own) ; (focus assumption))
      | ((with_reducible apply ia_own) ; (focus (apply Own.upTo ; (focus assumption) ; (repeat (first | exact Gr.refl _ _ | assumption | with_reducible refine Gr.trans ?_ (Gr.boxN _ _ _ _ _) | refine Gr.setNew ?_ (by first | exact Nat.le_refl _ | (simp only [newB_length, List.length_set, List.length_append, List.length_singleton]; omega) | omega) _ | refine Gr.addN ?_ _ | refine Gr.newN ?_ _ _ _ | exact Gr.trans (by assumption) (by assumption) | refine Gr.trans ?_ (by assumption) | refine Gr.trans (by assumption) ?_)) ; (first | done | fail))))
      | (with_reducible refine ia_sl ?_ ?_)
      | ((with_reducible apply NestR.ia) ; (focus assumption))
      | ((with_reducible apply NestR.lenW) ; (focus assumption))
      | ((with_reducible apply NestR.rowsW) ; (focus assumption))
      | ((with_reducible apply nest_nth) ; (focus assumption))
      | (with_reducible refine IaW.of ?_)
      | (with_reducible refine SliceW.of ?_)
      | ((with_reducible apply AppC.raw) ; (focus assumption))
      | (with_reducible refine AppC.frz ?_)
      | (with_reducible refine EqnW.of ?_)
      | ((with_reducible apply out_own) ; (focus assumption))
      | (with_reducible refine OutW.of ?_)
      | ((with_reducible apply NOut.own) ; (focus assumption))
      | (with_reducible refine NOut.lit ?_)
      | (with_reducible refine nthR_z ?_)
      | ((with_reducible apply nthR_left) ; (focus (first | omega | (simp only [List.length_append, List.length_cons, List.length_nil, List.length_take, List.length_drop, bs_length]; omega))))
      | (with_reducible refine lenR_sl ?_)
      | (with_reducible refine lenR_nils ?_)
      | (with_reducible refine lenR_rsl ?_)
      | (with_reducible refine rowsR_sl ?_)
      | (with_reducible refine rowsR_nils ?_)
      | (with_reducible refine rowsR_rsl ?_)
      | (with_reducible refine lenR_slx ?_)
      | (with_reducible refine rowsR_slx ?_)
      | (with_reducible refine appendR_slx ?_ ?_ ?_)
      | ((with_reducible apply bytesR_intro) ; (focus (first | rfl | (simp only [bs_take, bs_drop, bs_append]; rfl))))
      | ((with_reducible apply nthR_bs) ; (focus (first | omega | (simp only [List.length_append, List.length_cons, List.length_nil, List.length_take, List.length_drop, bs_length]; omega))))
      | (with_reducible intro _)
      ))
      )
    all_goals (conv => whnf)
    all_goals (try dsimp only)
    refine (chains_ok (gp to fr U) (by omega) hgo).call (.cons (Looks.ownsp hz) .nil) ?_
    rintro _ x H4 rfl hg4 hG4
    obtain ⟨c, h, rfl, hc, hh, hcn, hhn, hch⟩ := hG4.two
    replace hc := hc.own_inv
    replace hh := hh.own_inv
    replace hz := hz.keepN hg4
    generalize hGd : gp to fr U = G at *
    have hzb : z.bid ≠ some H4.length := not_new hz
    have hcb : c.bid ≠ some H4.length := not_new hc
    have hhb : h.bid ≠ some H4.length := not_new hh
    have hgl2 := sp_length G
    have hcl2 := sp_length (chn G)
    have hcl3 := chn_length G
    repeat' (first
      | ((with_reducible apply Gr.side) ; with_reducible assumption)
      | ((with_reducible apply Gr.side) ; (repeat (first | exact Gr.refl _ _ | assumption | with_reducible refine Gr.trans ?_ (Gr.boxN _ _ _ _ _) | refine Gr.setNew ?_ (by first | exact Nat.le_refl _ | (simp only [newB_length, List.length_set, List.length_append, List.length_singleton]; omega) | omega) _ | refine Gr.addN ?_ _ | refine Gr.newN ?_ _ _ _ | exact Gr.trans (by assumption) (by assumption) | refine Gr.trans ?_ (by assumption) | refine Gr.trans (by assumption) ?_)) ; (first | done | fail))
      | ((with_reducible refine Side.intro ?_) <;> (first
      | with_reducible rfl
      | omega
      | assumption
      | exact Nat.le_of_ble_eq_true rfl
      | (simp only [bs_length, List.length_append, List.length_cons, List.length_nil, List.length_take, List.length_drop, List.length_set, List.length_replicate]; omega)
      | exact .inl (by omega)
      | exact .inr (.inl ⟨rfl, by (simp only [bs_length, List.length_append, List.length_cons, List.length_nil, List.length_take, List.length_drop, List.length_set, List.length_replicate]; omega)⟩)
      | exact Ref.ok_refl _ _
      | (simp only [List.append_nil, List.nil_append, List.map_nil]; first | exact List.nodup_nil | exact nodup_bid1 _ | exact nodup_bid2 (by assumption))
      | ((first | refine fresh_tup ?_ | skip); (repeat (first | exact fresh_sp _ |  exact FreshA.sl _ _ FreshA_bs | exact FreshA.sl _ _ FreshA_is | exact FreshA.nils | exact FreshA.nilp | exact FreshA.int _ _ | exact FreshA.bool _ | exact FreshA.str _ | exact fresh_nil | refine fresh_cons ?_ ?_ | with_reducible refine fresh_aggR ?_ | with_reducible refine fresh_agg ?_ | with_reducible exact fresh_nilA | with_reducible refine fresh_consA ?_ ?_)); done)
      | exact rfl
      | (simp; done)
      ))
      | ((conv => whnf) <;> (first
      | (with_reducible refine and_same ?_)
      | (with_reducible refine and_side ?_ ?_)
      | (with_reducible refine Br.yes rfl ?_)
      | ((with_reducible apply Br.yes) ; (focus omega))
      | ((with_reducible apply Br.no) ; (focus omega))
      | ((with_reducible apply Br.no) ; (focus assumption))
      | ((with_reducible apply Br.yes) ; (focus assumption))
      | ((with_reducible apply Br.yes) ; (focus ((with_reducible refine And.intro ?_ ?_) ; (repeat' (first | with_reducible rfl | exact True.intro | with_reducible refine And.intro ?_ ?_ | omega | assumption)) ; (first | done | fail))))
      | (with_reducible refine Br.mk (fun _ => ?_) (fun _ => ?_))
      | (with_reducible refine Both.mk ?_ ?_)
      | ((with_reducible apply blkAt_intro) ; (focus (first
      | exact rfl
      | ((repeat (first
      | assumption
      | exact get_new
      | exact get_set (by assumption)
      | exact get_set get_new
      | with_reducible apply get_set
      | apply get_set
      | apply get_old
      | (apply get_set_ne; (focus (first | omega | (simp only [newB_length, List.length_set, List.length_append, List.length_singleton, List.length_nil]; omega))))
      )); done)
      )) ; (focus (first | rfl | assumption | omega)) ; (try dsimp only))
      | ((with_reducible apply nthR_sp) ; (focus assumption))
      | ((with_reducible apply nthR_bk) ; (focus assumption))
      | ((with_reducible apply nthR_dat) ; (focus assumption))
      | ((with_reducible apply nthR_bs1) ; (focus assumption))
      | ((with_reducible apply nthR_is1) ; (focus assumption))
      | ((with_reducible apply appendR_lit) ; (focus (first
      | exact rfl
      | ((repeat (first
      | assumption
      | exact get_new
      | exact get_set (by assumption)
      | exact get_set get_new
      | with_reducible apply get_set
      | apply get_set
      | apply get_old
      | (apply get_set_ne; (focus (first | omega | (simp only [newB_length, List.length_set, List.length_append, List.length_singleton, List.length_nil]; omega))))
      )); done)
      )) ; (focus (first | rfl | assumption)) ; (focus rfl) ; (focus rfl) ; (focus rfl) ; (focus (first | exact Nat.zero_le _ | omega | (simp; done) | (simp; omega))) ; (try dsimp only))
      | (with_reducible refine appendR_nil ?_ ?_)
      | ((with_reducible apply lenR_own) ; (focus assumption))
      | ((with_reducible apply lenR_own) ; (focus (apply Own.upTo ; (focus assumption) ; (repeat (first | exact Gr.refl _ _ | assumption | with_reducible refine Gr.trans ?_ (Gr.boxN _ _ _ _ _) | refine Gr.setNew ?_ (by first | exact Nat.le_refl _ | (simp only [newB_length, List.length_set, List.length_append, List.length_singleton]; omega) | omega) _ | refine Gr.addN ?_ _ | refine Gr.newN ?_ _ _ _ | exact Gr.trans (by assumption) (by assumption) | refine Gr.trans ?_ (by assumption) | refine Gr.trans (by assumption) ?_)) ; (first | done | fail))))
      | ((with_reducible apply rowsR_own) ; (focus assumption))
      | ((with_reducible apply rowsR_own) ; (focus (apply Own.upTo ; (focus assumption) ; (repeat (first | exact Gr.refl _ _ | assumption | with_reducible refine Gr.trans ?_ (Gr.boxN _ _ _ _ _) | refine Gr.setNew ?_ (by first | exact Nat.le_refl _ | (simp only [newB_length, List.length_set, List.length_append, List.length_singleton]; omega) | omega) _ | refine Gr.addN ?_ _ | refine Gr.newN ?_ _ _ _ | exact Gr.trans (by assumption) (by assumption) | refine Gr.trans ?_ (by assumption) | refine Gr.trans (by assumption) ?_)) ; (first | done | fail))))
      | ((with_reducible apply ia_own) ; (focus assumption))
      | ((with_reducible apply ia_own) ; (focus (apply Own.upTo ; (focus assumption) ; (repeat (first | exact Gr.refl _ _ | assumption | with_reducible refine Gr.trans ?_ (Gr.boxN _ _ _ _ _) | refine Gr.setNew ?_ (by first | exact Nat.le_refl _ | (simp only [newB_length, List.length_set, List.length_append, List.length_singleton]; omega) | omega) _ | refine Gr.addN ?_ _ | refine Gr.newN ?_ _ _ _ | exact Gr.trans (by assumption) (by assumption) | refine Gr.trans ?_ (by assumption) | refine Gr.trans (by assumption) ?_)) ; (first | done | fail))))
      | (with_reducible refine ia_sl ?_ ?_)
      | ((with_reducible apply NestR.ia) ; (focus assumption))
      | ((with_reducible apply NestR.lenW) ; (focus assumption))
      | ((with_reducible apply NestR.rowsW) ; (focus assumption))
      | ((with_reducible apply nest_nth) ; (focus assumption))
      | (with_reducible refine IaW.of ?_)
      | (with_reducible refine SliceW.of ?_)
      | ((with_reducible apply AppC.raw) ; (focus assumption))
      | (with_reducible refine AppC.frz ?_)
      | (with_reducible refine EqnW.of ?_)
      | ((with_reducible apply out_own) ; (focus assumption))
      | (with_reducible refine OutW.of ?_)
      | ((with_reducible apply NOut.own) ; (focus assumption))
      | (with_reducible refine NOut.lit ?_)
      | (with_reducible refine nthR_z ?_)
      | ((with_reducible apply nthR_left) ; (focus (first | omega | (simp only [List.length_append, List.length_cons, List.length_nil, List.length_take, List.length_drop, bs_length]; omega))))
      | (with_reducible refine lenR_sl ?_)
      | (with_reducible refine lenR_nils ?_)
      | (with_reducible refine lenR_rsl ?_)
      | (with_reducible refine rowsR_sl ?_)
      | (with_reducible refine rowsR_nils ?_)
      | (with_reducible refine rowsR_rsl ?_)
      | (with_reducible refine lenR_slx ?_)
      | (with_reducible refine rowsR_slx ?_)
      | (with_reducible refine appendR_slx ?_ ?_ ?_)
      | ((with_reducible apply bytesR_intro) ; (focus (first | rfl | (simp only [bs_take, bs_drop, bs_append]; rfl))))
      | ((with_reducible apply nthR_bs) ; (focus (first | omega | (simp only [List.length_append, List.length_cons, List.length_nil, List.length_take, List.length_drop, bs_length]; omega))))
      | (with_reducible intro _)
      ))
      )
    all_goals (conv => whnf)
    all_goals (try dsimp only)
    refine loop_at (α := Nat × List UInt8 × AH) (fun a => [(48, .int .i64 a.1)]) (fun a => a.2.2) (fun a => a.1 ≤ U.length ∧ a.2.2[H4.length]? = some { sz := 1, els := bs a.2.1, gen := 0, wr := true, pure := true } ∧ a.2.1.length = off fr to ∧ (∀ (k : Nat) u d, k < a.1 → U[k]? = some u → D[k]? = some d → At a.2.1 (off fr u.1) (ub u d)) ∧ Own a.2.2 2 z (sp G) ∧ Own a.2.2 2 c (sp (chn G)) ∧ Own a.2.2 1 h (is (hdsL G))) (fun a => U.length - a.1) (0, List.replicate ((to - fr) * 8).toNat 0, _) ⟨Nat.zero_le _, by dsimp only; rw [← bs_replicate]; exact get_new, by dsimp only; rw [List.length_replicate]; unfold off; omega, fun k u d hk => by dsimp only at hk; omega, hz.keepN (by (repeat (first | exact Gr.refl _ _ | assumption | with_reducible refine Gr.trans ?_ (Gr.boxN _ _ _ _ _) | refine Gr.setNew ?_ (by first | exact Nat.le_refl _ | (simp only [newB_length, List.length_set, List.length_append, List.length_singleton]; omega) | omega) _ | refine Gr.addN ?_ _ | refine Gr.newN ?_ _ _ _ | exact Gr.trans (by assumption) (by assumption) | refine Gr.trans ?_ (by assumption) | refine Gr.trans (by assumption) ?_))), hc.keepN (by (repeat (first | exact Gr.refl _ _ | assumption | with_reducible refine Gr.trans ?_ (Gr.boxN _ _ _ _ _) | refine Gr.setNew ?_ (by first | exact Nat.le_refl _ | (simp only [newB_length, List.length_set, List.length_append, List.length_singleton]; omega) | omega) _ | refine Gr.addN ?_ _ | refine Gr.newN ?_ _ _ _ | exact Gr.trans (by assumption) (by assumption) | refine Gr.trans ?_ (by assumption) | refine Gr.trans (by assumption) ?_))), hh.keepN (by (repeat (first | exact Gr.refl _ _ | assumption | with_reducible refine Gr.trans ?_ (Gr.boxN _ _ _ _ _) | refine Gr.setNew ?_ (by first | exact Nat.le_refl _ | (simp only [newB_length, List.length_set, List.length_append, List.length_singleton]; omega) | omega) _ | refine Gr.addN ?_ _ | refine Gr.newN ?_ _ _ _ | exact Gr.trans (by assumption) (by assumption) | refine Gr.trans ?_ (by assumption) | refine Gr.trans (by assumption) ?_)))⟩ rfl rfl ?_
    rintro ⟨i, p, σ⟩ ⟨hi, hb, hpl, hAt, hz1, hc1, hh1⟩
    dsimp only at hi hb hpl hAt hz1 hc1 hh1 ⊢
    have hpb := bs_length p
    have hlb := (List.getElem?_eq_some_iff.1 hb).1
    have hoff : (off fr to : Int) = 8 * (to - fr) := by unfold off; omega
    by_cases hlt : i < U.length
    · obtain ⟨u, hu, hu'⟩ := getN hlt
      obtain ⟨d, hdd, hdd'⟩ := getN (l := D) (k := i) (by omega)
      have hdm := hd d (List.mem_of_getElem? hdd')
      have hub := T.u hu' hdd'
      have hul := T.ulen hu' hdd'
      have hdl := bs_length d
      repeat' (first
        | ((with_reducible apply Gr.side) ; with_reducible assumption)
        | ((with_reducible apply Gr.side) ; (repeat (first | exact Gr.refl _ _ | assumption | with_reducible refine Gr.trans ?_ (Gr.boxN _ _ _ _ _) | refine Gr.setNew ?_ (by first | exact Nat.le_refl _ | (simp only [newB_length, List.length_set, List.length_append, List.length_singleton]; omega) | omega) _ | refine Gr.addN ?_ _ | refine Gr.newN ?_ _ _ _ | exact Gr.trans (by assumption) (by assumption) | refine Gr.trans ?_ (by assumption) | refine Gr.trans (by assumption) ?_)) ; (first | done | fail))
        | ((with_reducible refine Side.intro ?_) <;> (first
        | with_reducible rfl
        | omega
        | assumption
        | exact Nat.le_of_ble_eq_true rfl
        | (simp only [bs_length, List.length_append, List.length_cons, List.length_nil, List.length_take, List.length_drop, List.length_set, List.length_replicate]; omega)
        | exact .inl (by omega)
        | exact .inr (.inl ⟨rfl, by (simp only [bs_length, List.length_append, List.length_cons, List.length_nil, List.length_take, List.length_drop, List.length_set, List.length_replicate]; omega)⟩)
        | exact Ref.ok_refl _ _
        | (simp only [List.append_nil, List.nil_append, List.map_nil]; first | exact List.nodup_nil | exact nodup_bid1 _ | exact nodup_bid2 (by assumption))
        | ((first | refine fresh_tup ?_ | skip); (repeat (first | exact fresh_sp _ |  exact FreshA.sl _ _ FreshA_bs | exact FreshA.sl _ _ FreshA_is | exact FreshA.nils | exact FreshA.nilp | exact FreshA.int _ _ | exact FreshA.bool _ | exact FreshA.str _ | exact fresh_nil | refine fresh_cons ?_ ?_ | with_reducible refine fresh_aggR ?_ | with_reducible refine fresh_agg ?_ | with_reducible exact fresh_nilA | with_reducible refine fresh_consA ?_ ?_)); done)
        | exact rfl
        | (simp; done)
        ))
        | ((conv => whnf) <;> (first
        | (with_reducible refine and_same ?_)
        | (with_reducible refine and_side ?_ ?_)
        | (with_reducible refine Br.yes rfl ?_)
        | ((with_reducible apply Br.yes) ; (focus omega))
        | ((with_reducible apply Br.no) ; (focus omega))
        | ((with_reducible apply Br.no) ; (focus assumption))
        | ((with_reducible apply Br.yes) ; (focus assumption))
        | ((with_reducible apply Br.yes) ; (focus ((with_reducible refine And.intro ?_ ?_) ; (repeat' (first | with_reducible rfl | exact True.intro | with_reducible refine And.intro ?_ ?_ | omega | assumption)) ; (first | done | fail))))
        | (with_reducible refine Br.mk (fun _ => ?_) (fun _ => ?_))
        | (with_reducible refine Both.mk ?_ ?_)
        | ((with_reducible apply blkAt_intro) ; (focus (first
        | exact rfl
        | ((repeat (first
        | assumption
        | exact get_new
        | exact get_set (by assumption)
        | exact get_set get_new
        | with_reducible apply get_set
        | apply get_set
        | apply get_old
        | (apply get_set_ne; (focus (first | omega | (simp only [newB_length, List.length_set, List.length_append, List.length_singleton, List.length_nil]; omega))))
        )); done)
        )) ; (focus (first | rfl | assumption | omega)) ; (try dsimp only))
        | ((with_reducible apply nthR_sp) ; (focus assumption))
        | ((with_reducible apply nthR_bk) ; (focus assumption))
        | ((with_reducible apply nthR_dat) ; (focus assumption))
        | ((with_reducible apply nthR_bs1) ; (focus assumption))
        | ((with_reducible apply nthR_is1) ; (focus assumption))
        | ((with_reducible apply appendR_lit) ; (focus (first
        | exact rfl
        | ((repeat (first
        | assumption
        | exact get_new
        | exact get_set (by assumption)
        | exact get_set get_new
        | with_reducible apply get_set
        | apply get_set
        | apply get_old
        | (apply get_set_ne; (focus (first | omega | (simp only [newB_length, List.length_set, List.length_append, List.length_singleton, List.length_nil]; omega))))
        )); done)
        )) ; (focus (first | rfl | assumption)) ; (focus rfl) ; (focus rfl) ; (focus rfl) ; (focus (first | exact Nat.zero_le _ | omega | (simp; done) | (simp; omega))) ; (try dsimp only))
        | (with_reducible refine appendR_nil ?_ ?_)
        | ((with_reducible apply lenR_own) ; (focus assumption))
        | ((with_reducible apply lenR_own) ; (focus (apply Own.upTo ; (focus assumption) ; (repeat (first | exact Gr.refl _ _ | assumption | with_reducible refine Gr.trans ?_ (Gr.boxN _ _ _ _ _) | refine Gr.setNew ?_ (by first | exact Nat.le_refl _ | (simp only [newB_length, List.length_set, List.length_append, List.length_singleton]; omega) | omega) _ | refine Gr.addN ?_ _ | refine Gr.newN ?_ _ _ _ | exact Gr.trans (by assumption) (by assumption) | refine Gr.trans ?_ (by assumption) | refine Gr.trans (by assumption) ?_)) ; (first | done | fail))))
        | ((with_reducible apply rowsR_own) ; (focus assumption))
        | ((with_reducible apply rowsR_own) ; (focus (apply Own.upTo ; (focus assumption) ; (repeat (first | exact Gr.refl _ _ | assumption | with_reducible refine Gr.trans ?_ (Gr.boxN _ _ _ _ _) | refine Gr.setNew ?_ (by first | exact Nat.le_refl _ | (simp only [newB_length, List.length_set, List.length_append, List.length_singleton]; omega) | omega) _ | refine Gr.addN ?_ _ | refine Gr.newN ?_ _ _ _ | exact Gr.trans (by assumption) (by assumption) | refine Gr.trans ?_ (by assumption) | refine Gr.trans (by assumption) ?_)) ; (first | done | fail))))
        | ((with_reducible apply ia_own) ; (focus assumption))
        | ((with_reducible apply ia_own) ; (focus (apply Own.upTo ; (focus assumption) ; (repeat (first | exact Gr.refl _ _ | assumption | with_reducible refine Gr.trans ?_ (Gr.boxN _ _ _ _ _) | refine Gr.setNew ?_ (by first | exact Nat.le_refl _ | (simp only [newB_length, List.length_set, List.length_append, List.length_singleton]; omega) | omega) _ | refine Gr.addN ?_ _ | refine Gr.newN ?_ _ _ _ | exact Gr.trans (by assumption) (by assumption) | refine Gr.trans ?_ (by assumption) | refine Gr.trans (by assumption) ?_)) ; (first | done | fail))))
        | (with_reducible refine ia_sl ?_ ?_)
        | ((with_reducible apply NestR.ia) ; (focus assumption))
        | ((with_reducible apply NestR.lenW) ; (focus assumption))
        | ((with_reducible apply NestR.rowsW) ; (focus assumption))
        | ((with_reducible apply nest_nth) ; (focus assumption))
        | (with_reducible refine IaW.of ?_)
        | (with_reducible refine SliceW.of ?_)
        | ((with_reducible apply AppC.raw) ; (focus assumption))
        | (with_reducible refine AppC.frz ?_)
        | (with_reducible refine EqnW.of ?_)
        | ((with_reducible apply out_own) ; (focus assumption))
        | (with_reducible refine OutW.of ?_)
        | ((with_reducible apply NOut.own) ; (focus assumption))
        | (with_reducible refine NOut.lit ?_)
        | (with_reducible refine nthR_z ?_)
        | ((with_reducible apply nthR_left) ; (focus (first | omega | (simp only [List.length_append, List.length_cons, List.length_nil, List.length_take, List.length_drop, bs_length]; omega))))
        | (with_reducible refine lenR_sl ?_)
        | (with_reducible refine lenR_nils ?_)
        | (with_reducible refine lenR_rsl ?_)
        | (with_reducible refine rowsR_sl ?_)
        | (with_reducible refine rowsR_nils ?_)
        | (with_reducible refine rowsR_rsl ?_)
        | (with_reducible refine lenR_slx ?_)
        | (with_reducible refine rowsR_slx ?_)
        | (with_reducible refine appendR_slx ?_ ?_ ?_)
        | ((with_reducible apply bytesR_intro) ; (focus (first | rfl | (simp only [bs_take, bs_drop, bs_append]; rfl))))
        | ((with_reducible apply nthR_bs) ; (focus (first | omega | (simp only [List.length_append, List.length_cons, List.length_nil, List.length_take, List.length_drop, bs_length]; omega))))
        | (with_reducible intro _)
        ))
        )
      all_goals (conv => whnf)
      all_goals (try dsimp only)
      refine piece_call u.2.1 (u.2.2 + 1) d (by omega) (by omega) (by omega) (by omega) hub.2.2.2.2.2 (.bs _ _ _) fun H5 y5 hg5 hy5 hyn5 => ?_
      have hb5 := gr_get hg5 (gr_get (by (repeat (first | exact Gr.refl _ _ | assumption | with_reducible refine Gr.trans ?_ (Gr.boxN _ _ _ _ _) | refine Gr.setNew ?_ (by first | exact Nat.le_refl _ | (simp only [newB_length, List.length_set, List.length_append, List.length_singleton]; omega) | omega) _ | refine Gr.addN ?_ _ | refine Gr.newN ?_ _ _ _ | exact Gr.trans (by assumption) (by assumption) | refine Gr.trans ?_ (by assumption) | refine Gr.trans (by assumption) ?_))) hb)
      have hbl := bs_length (pc u.2.1 (u.2.2 + 1) d)
      repeat' (first
        | ((with_reducible apply Gr.side) ; with_reducible assumption)
        | ((with_reducible apply Gr.side) ; (repeat (first | exact Gr.refl _ _ | assumption | with_reducible refine Gr.trans ?_ (Gr.boxN _ _ _ _ _) | refine Gr.setNew ?_ (by first | exact Nat.le_refl _ | (simp only [newB_length, List.length_set, List.length_append, List.length_singleton]; omega) | omega) _ | refine Gr.addN ?_ _ | refine Gr.newN ?_ _ _ _ | exact Gr.trans (by assumption) (by assumption) | refine Gr.trans ?_ (by assumption) | refine Gr.trans (by assumption) ?_)) ; (first | done | fail))
        | ((with_reducible refine Side.intro ?_) <;> (first
        | with_reducible rfl
        | omega
        | assumption
        | exact Nat.le_of_ble_eq_true rfl
        | (simp only [bs_length, List.length_append, List.length_cons, List.length_nil, List.length_take, List.length_drop, List.length_set, List.length_replicate]; omega)
        | exact .inl (by omega)
        | exact .inr (.inl ⟨rfl, by (simp only [bs_length, List.length_append, List.length_cons, List.length_nil, List.length_take, List.length_drop, List.length_set, List.length_replicate]; omega)⟩)
        | exact Ref.ok_refl _ _
        | (simp only [List.append_nil, List.nil_append, List.map_nil]; first | exact List.nodup_nil | exact nodup_bid1 _ | exact nodup_bid2 (by assumption))
        | ((first | refine fresh_tup ?_ | skip); (repeat (first | exact fresh_sp _ |  exact FreshA.sl _ _ FreshA_bs | exact FreshA.sl _ _ FreshA_is | exact FreshA.nils | exact FreshA.nilp | exact FreshA.int _ _ | exact FreshA.bool _ | exact FreshA.str _ | exact fresh_nil | refine fresh_cons ?_ ?_ | with_reducible refine fresh_aggR ?_ | with_reducible refine fresh_agg ?_ | with_reducible exact fresh_nilA | with_reducible refine fresh_consA ?_ ?_)); done)
        | exact rfl
        | (simp; done)
        ))
        | ((conv => whnf) <;> (first
        | (with_reducible refine and_same ?_)
        | (with_reducible refine and_side ?_ ?_)
        | (with_reducible refine Br.yes rfl ?_)
        | ((with_reducible apply Br.yes) ; (focus omega))
        | ((with_reducible apply Br.no) ; (focus omega))
        | ((with_reducible apply Br.no) ; (focus assumption))
        | ((with_reducible apply Br.yes) ; (focus assumption))
        | ((with_reducible apply Br.yes) ; (focus ((with_reducible refine And.intro ?_ ?_) ; (repeat' (first | with_reducible rfl | exact True.intro | with_reducible refine And.intro ?_ ?_ | omega | assumption)) ; (first | done | fail))))
        | (with_reducible refine Br.mk (fun _ => ?_) (fun _ => ?_))
        | (with_reducible refine Both.mk ?_ ?_)
        | ((with_reducible apply blkAt_intro) ; (focus (first
        | exact rfl
        | ((repeat (first
        | assumption
        | exact get_new
        | exact get_set (by assumption)
        | exact get_set get_new
        | with_reducible apply get_set
        | apply get_set
        | apply get_old
        | (apply get_set_ne; (focus (first | omega | (simp only [newB_length, List.length_set, List.length_append, List.length_singleton, List.length_nil]; omega))))
        )); done)
        )) ; (focus (first | rfl | assumption | omega)) ; (try dsimp only))
        | ((with_reducible apply nthR_sp) ; (focus assumption))
        | ((with_reducible apply nthR_bk) ; (focus assumption))
        | ((with_reducible apply nthR_dat) ; (focus assumption))
        | ((with_reducible apply nthR_bs1) ; (focus assumption))
        | ((with_reducible apply nthR_is1) ; (focus assumption))
        | ((with_reducible apply appendR_lit) ; (focus (first
        | exact rfl
        | ((repeat (first
        | assumption
        | exact get_new
        | exact get_set (by assumption)
        | exact get_set get_new
        | with_reducible apply get_set
        | apply get_set
        | apply get_old
        | (apply get_set_ne; (focus (first | omega | (simp only [newB_length, List.length_set, List.length_append, List.length_singleton, List.length_nil]; omega))))
        )); done)
        )) ; (focus (first | rfl | assumption)) ; (focus rfl) ; (focus rfl) ; (focus rfl) ; (focus (first | exact Nat.zero_le _ | omega | (simp; done) | (simp; omega))) ; (try dsimp only))
        | (with_reducible refine appendR_nil ?_ ?_)
        | ((with_reducible apply lenR_own) ; (focus assumption))
        | ((with_reducible apply lenR_own) ; (focus (apply Own.upTo ; (focus assumption) ; (repeat (first | exact Gr.refl _ _ | assumption | with_reducible refine Gr.trans ?_ (Gr.boxN _ _ _ _ _) | refine Gr.setNew ?_ (by first | exact Nat.le_refl _ | (simp only [newB_length, List.length_set, List.length_append, List.length_singleton]; omega) | omega) _ | refine Gr.addN ?_ _ | refine Gr.newN ?_ _ _ _ | exact Gr.trans (by assumption) (by assumption) | refine Gr.trans ?_ (by assumption) | refine Gr.trans (by assumption) ?_)) ; (first | done | fail))))
        | ((with_reducible apply rowsR_own) ; (focus assumption))
        | ((with_reducible apply rowsR_own) ; (focus (apply Own.upTo ; (focus assumption) ; (repeat (first | exact Gr.refl _ _ | assumption | with_reducible refine Gr.trans ?_ (Gr.boxN _ _ _ _ _) | refine Gr.setNew ?_ (by first | exact Nat.le_refl _ | (simp only [newB_length, List.length_set, List.length_append, List.length_singleton]; omega) | omega) _ | refine Gr.addN ?_ _ | refine Gr.newN ?_ _ _ _ | exact Gr.trans (by assumption) (by assumption) | refine Gr.trans ?_ (by assumption) | refine Gr.trans (by assumption) ?_)) ; (first | done | fail))))
        | ((with_reducible apply ia_own) ; (focus assumption))
        | ((with_reducible apply ia_own) ; (focus (apply Own.upTo ; (focus assumption) ; (repeat (first | exact Gr.refl _ _ | assumption | with_reducible refine Gr.trans ?_ (Gr.boxN _ _ _ _ _) | refine Gr.setNew ?_ (by first | exact Nat.le_refl _ | (simp only [newB_length, List.length_set, List.length_append, List.length_singleton]; omega) | omega) _ | refine Gr.addN ?_ _ | refine Gr.newN ?_ _ _ _ | exact Gr.trans (by assumption) (by assumption) | refine Gr.trans ?_ (by assumption) | refine Gr.trans (by assumption) ?_)) ; (first | done | fail))))
        | (with_reducible refine ia_sl ?_ ?_)
        | ((with_reducible apply NestR.ia) ; (focus assumption))
        | ((with_reducible apply NestR.lenW) ; (focus assumption))
        | ((with_reducible apply NestR.rowsW) ; (focus assumption))
        | ((with_reducible apply nest_nth) ; (focus assumption))
        | (with_reducible refine IaW.of ?_)
        | (with_reducible refine SliceW.of ?_)
        | ((with_reducible apply AppC.raw) ; (focus assumption))
        | (with_reducible refine AppC.frz ?_)
        | (with_reducible refine EqnW.of ?_)
        | ((with_reducible apply out_own) ; (focus assumption))
        | (with_reducible refine OutW.of ?_)
        | ((with_reducible apply NOut.own) ; (focus assumption))
        | (with_reducible refine NOut.lit ?_)
        | (with_reducible refine nthR_z ?_)
        | ((with_reducible apply nthR_left) ; (focus (first | omega | (simp only [List.length_append, List.length_cons, List.length_nil, List.length_take, List.length_drop, bs_length]; omega))))
        | (with_reducible refine lenR_sl ?_)
        | (with_reducible refine lenR_nils ?_)
        | (with_reducible refine lenR_rsl ?_)
        | (with_reducible refine rowsR_sl ?_)
        | (with_reducible refine rowsR_nils ?_)
        | (with_reducible refine rowsR_rsl ?_)
        | (with_reducible refine lenR_slx ?_)
        | (with_reducible refine rowsR_slx ?_)
        | (with_reducible refine appendR_slx ?_ ?_ ?_)
        | ((with_reducible apply bytesR_intro) ; (focus (first | rfl | (simp only [bs_take, bs_drop, bs_append]; rfl))))
        | ((with_reducible apply nthR_bs) ; (focus (first | omega | (simp only [List.length_append, List.length_cons, List.length_nil, List.length_take, List.length_drop, bs_length]; omega))))
        | (with_reducible intro _)
        ))
        )
      all_goals (conv => whnf)
      all_goals (try dsimp only)
      have eo : 0 + ((u.1 - fr) * 8).toNat = off fr u.1 := by unfold off; omega
      have eo2 : (off fr u.1 : Int) = 8 * (u.1 - fr) := by unfold off; omega
      refine copy_bs (p := p) (d := ub u d) (sp := []) (by rw [List.append_nil]; exact hb5) rfl (by omega) (by omega) fun σ6 e6 => ?_
      rw [eo] at e6
      have hb6 : σ6[H4.length]? = some { sz := 1, els := bs (pt p (off fr u.1) (ub u d)), gen := 0, wr := true, pure := true } := by rw [e6, List.append_nil]; exact get_set hb5
      have hz6 : Own σ6 2 z (sp G) := by rw [e6]; exact Own.keep (Gr.set _ _ _) (hz1.keepN (Gr.trans (by (repeat (first | exact Gr.refl _ _ | assumption | with_reducible refine Gr.trans ?_ (Gr.boxN _ _ _ _ _) | refine Gr.setNew ?_ (by first | exact Nat.le_refl _ | (simp only [newB_length, List.length_set, List.length_append, List.length_singleton]; omega) | omega) _ | refine Gr.addN ?_ _ | refine Gr.newN ?_ _ _ _ | exact Gr.trans (by assumption) (by assumption) | refine Gr.trans ?_ (by assumption) | refine Gr.trans (by assumption) ?_))) hg5)) (.inr fun e => hzb e.symm)
      have hc6 : Own σ6 2 c (sp (chn G)) := by rw [e6]; exact Own.keep (Gr.set _ _ _) (hc1.keepN (Gr.trans (by (repeat (first | exact Gr.refl _ _ | assumption | with_reducible refine Gr.trans ?_ (Gr.boxN _ _ _ _ _) | refine Gr.setNew ?_ (by first | exact Nat.le_refl _ | (simp only [newB_length, List.length_set, List.length_append, List.length_singleton]; omega) | omega) _ | refine Gr.addN ?_ _ | refine Gr.newN ?_ _ _ _ | exact Gr.trans (by assumption) (by assumption) | refine Gr.trans ?_ (by assumption) | refine Gr.trans (by assumption) ?_))) hg5)) (.inr fun e => hcb e.symm)
      have hh6 : Own σ6 1 h (is (hdsL G)) := by rw [e6]; exact Own.keep (Gr.set _ _ _) (hh1.keepN (Gr.trans (by (repeat (first | exact Gr.refl _ _ | assumption | with_reducible refine Gr.trans ?_ (Gr.boxN _ _ _ _ _) | refine Gr.setNew ?_ (by first | exact Nat.le_refl _ | (simp only [newB_length, List.length_set, List.length_append, List.length_singleton]; omega) | omega) _ | refine Gr.addN ?_ _ | refine Gr.newN ?_ _ _ _ | exact Gr.trans (by assumption) (by assumption) | refine Gr.trans ?_ (by assumption) | refine Gr.trans (by assumption) ?_))) hg5)) (.inr fun e => hhb e.symm)
      clear e6
      have hin : off fr u.1 + (ub u d).length ≤ p.length := by omega
      repeat' (first
        | ((with_reducible apply Gr.side) ; with_reducible assumption)
        | ((with_reducible apply Gr.side) ; (repeat (first | exact Gr.refl _ _ | assumption | with_reducible refine Gr.trans ?_ (Gr.boxN _ _ _ _ _) | refine Gr.setNew ?_ (by first | exact Nat.le_refl _ | (simp only [newB_length, List.length_set, List.length_append, List.length_singleton]; omega) | omega) _ | refine Gr.addN ?_ _ | refine Gr.newN ?_ _ _ _ | exact Gr.trans (by assumption) (by assumption) | refine Gr.trans ?_ (by assumption) | refine Gr.trans (by assumption) ?_)) ; (first | done | fail))
        | ((with_reducible refine Side.intro ?_) <;> (first
        | with_reducible rfl
        | omega
        | assumption
        | exact Nat.le_of_ble_eq_true rfl
        | (simp only [bs_length, List.length_append, List.length_cons, List.length_nil, List.length_take, List.length_drop, List.length_set, List.length_replicate]; omega)
        | exact .inl (by omega)
        | exact .inr (.inl ⟨rfl, by (simp only [bs_length, List.length_append, List.length_cons, List.length_nil, List.length_take, List.length_drop, List.length_set, List.length_replicate]; omega)⟩)
        | exact Ref.ok_refl _ _
        | (simp only [List.append_nil, List.nil_append, List.map_nil]; first | exact List.nodup_nil | exact nodup_bid1 _ | exact nodup_bid2 (by assumption))
        | ((first | refine fresh_tup ?_ | skip); (repeat (first | exact fresh_sp _ |  exact FreshA.sl _ _ FreshA_bs | exact FreshA.sl _ _ FreshA_is | exact FreshA.nils | exact FreshA.nilp | exact FreshA.int _ _ | exact FreshA.bool _ | exact FreshA.str _ | exact fresh_nil | refine fresh_cons ?_ ?_ | with_reducible refine fresh_aggR ?_ | with_reducible refine fresh_agg ?_ | with_reducible exact fresh_nilA | with_reducible refine fresh_consA ?_ ?_)); done)
        | exact rfl
        | (simp; done)
        ))
        | ((conv => whnf) <;> (first
        | (with_reducible refine and_same ?_)
        | (with_reducible refine and_side ?_ ?_)
        | (with_reducible refine Br.yes rfl ?_)
        | ((with_reducible apply Br.yes) ; (focus omega))
        | ((with_reducible apply Br.no) ; (focus omega))
        | ((with_reducible apply Br.no) ; (focus assumption))
        | ((with_reducible apply Br.yes) ; (focus assumption))
        | ((with_reducible apply Br.yes) ; (focus ((with_reducible refine And.intro ?_ ?_) ; (repeat' (first | with_reducible rfl | exact True.intro | with_reducible refine And.intro ?_ ?_ | omega | assumption)) ; (first | done | fail))))
        | (with_reducible refine Br.mk (fun _ => ?_) (fun _ => ?_))
        | (with_reducible refine Both.mk ?_ ?_)
        | ((with_reducible apply blkAt_intro) ; (focus (first
        | exact rfl
        | ((repeat (first
        | assumption
        | exact get_new
        | exact get_set (by assumption)
        | exact get_set get_new
        | with_reducible apply get_set
        | apply get_set
        | apply get_old
        | (apply get_set_ne; (focus (first | omega | (simp only [newB_length, List.length_set, List.length_append, List.length_singleton, List.length_nil]; omega))))
        )); done)
        )) ; (focus (first | rfl | assumption | omega)) ; (try dsimp only))
        | ((with_reducible apply nthR_sp) ; (focus assumption))
        | ((with_reducible apply nthR_bk) ; (focus assumption))
        | ((with_reducible apply nthR_dat) ; (focus assumption))
        | ((with_reducible apply nthR_bs1) ; (focus assumption))
        | ((with_reducible apply nthR_is1) ; (focus assumption))
        | ((with_reducible apply appendR_lit) ; (focus (first
        | exact rfl
        | ((repeat (first
        | assumption
        | exact get_new
        | exact get_set (by assumption)
        | exact get_set get_new
        | with_reducible apply get_set
        | apply get_set
        | apply get_old
        | (apply get_set_ne; (focus (first | omega | (simp only [newB_length, List.length_set, List.length_append, List.length_singleton, List.length_nil]; omega))))
        )); done)
        )) ; (focus (first | rfl | assumption)) ; (focus rfl) ; (focus rfl) ; (focus rfl) ; (focus (first | exact Nat.zero_le _ | omega | (simp; done) | (simp; omega))) ; (try dsimp only))
        | (with_reducible refine appendR_nil ?_ ?_)
        | ((with_reducible apply lenR_own) ; (focus assumption))
        | ((with_reducible apply lenR_own) ; (focus (apply Own.upTo ; (focus assumption) ; (repeat (first | exact Gr.refl _ _ | assumption | with_reducible refine Gr.trans ?_ (Gr.boxN _ _ _ _ _) | refine Gr.setNew ?_ (by first | exact Nat.le_refl _ | (simp only [newB_length, List.length_set, List.length_append, List.length_singleton]; omega) | omega) _ | refine Gr.addN ?_ _ | refine Gr.newN ?_ _ _ _ | exact Gr.trans (by assumption) (by assumption) | refine Gr.trans ?_ (by assumption) | refine Gr.trans (by assumption) ?_)) ; (first | done | fail))))
        | ((with_reducible apply rowsR_own) ; (focus assumption))
        | ((with_reducible apply rowsR_own) ; (focus (apply Own.upTo ; (focus assumption) ; (repeat (first | exact Gr.refl _ _ | assumption | with_reducible refine Gr.trans ?_ (Gr.boxN _ _ _ _ _) | refine Gr.setNew ?_ (by first | exact Nat.le_refl _ | (simp only [newB_length, List.length_set, List.length_append, List.length_singleton]; omega) | omega) _ | refine Gr.addN ?_ _ | refine Gr.newN ?_ _ _ _ | exact Gr.trans (by assumption) (by assumption) | refine Gr.trans ?_ (by assumption) | refine Gr.trans (by assumption) ?_)) ; (first | done | fail))))
        | ((with_reducible apply ia_own) ; (focus assumption))
        | ((with_reducible apply ia_own) ; (focus (apply Own.upTo ; (focus assumption) ; (repeat (first | exact Gr.refl _ _ | assumption | with_reducible refine Gr.trans ?_ (Gr.boxN _ _ _ _ _) | refine Gr.setNew ?_ (by first | exact Nat.le_refl _ | (simp only [newB_length, List.length_set, List.length_append, List.length_singleton]; omega) | omega) _ | refine Gr.addN ?_ _ | refine Gr.newN ?_ _ _ _ | exact Gr.trans (by assumption) (by assumption) | refine Gr.trans ?_ (by assumption) | refine Gr.trans (by assumption) ?_)) ; (first | done | fail))))
        | (with_reducible refine ia_sl ?_ ?_)
        | ((with_reducible apply NestR.ia) ; (focus assumption))
        | ((with_reducible apply NestR.lenW) ; (focus assumption))
        | ((with_reducible apply NestR.rowsW) ; (focus assumption))
        | ((with_reducible apply nest_nth) ; (focus assumption))
        | (with_reducible refine IaW.of ?_)
        | (with_reducible refine SliceW.of ?_)
        | ((with_reducible apply AppC.raw) ; (focus assumption))
        | (with_reducible refine AppC.frz ?_)
        | (with_reducible refine EqnW.of ?_)
        | ((with_reducible apply out_own) ; (focus assumption))
        | (with_reducible refine OutW.of ?_)
        | ((with_reducible apply NOut.own) ; (focus assumption))
        | (with_reducible refine NOut.lit ?_)
        | (with_reducible refine nthR_z ?_)
        | ((with_reducible apply nthR_left) ; (focus (first | omega | (simp only [List.length_append, List.length_cons, List.length_nil, List.length_take, List.length_drop, bs_length]; omega))))
        | (with_reducible refine lenR_sl ?_)
        | (with_reducible refine lenR_nils ?_)
        | (with_reducible refine lenR_rsl ?_)
        | (with_reducible refine rowsR_sl ?_)
        | (with_reducible refine rowsR_nils ?_)
        | (with_reducible refine rowsR_rsl ?_)
        | (with_reducible refine lenR_slx ?_)
        | (with_reducible refine rowsR_slx ?_)
        | (with_reducible refine appendR_slx ?_ ?_ ?_)
        | ((with_reducible apply bytesR_intro) ; (focus (first | rfl | (simp only [bs_take, bs_drop, bs_append]; rfl))))
        | ((with_reducible apply nthR_bs) ; (focus (first | omega | (simp only [List.length_append, List.length_cons, List.length_nil, List.length_take, List.length_drop, bs_length]; omega))))
        | (with_reducible intro _)
        ))
        )
      all_goals (conv => whnf)
      all_goals (try dsimp only)
      refine ⟨(i + 1, pt p (off fr u.1) (ub u d), σ6), rfl, rfl, ⟨by dsimp only; omega, hb6, by dsimp only; rw [pt_length hin, hpl], fun k v e hk hv he => ?_, hz6, hc6, hh6⟩, by dsimp only; omega⟩
      dsimp only at hk ⊢
      by_cases hki : k = i
      · subst hki
        rw [hu'] at hv; cases hv
        rw [hdd'] at he; cases he
        exact At.same hin
      · have hlt2 := used_lt t6 (show k < i from by omega) hv hu'
        have hvl := T.ulen hv he
        have hvb := T.u hv he
        exact (hAt k v e (by omega) hv he).other hin (.inl (by rw [hvl]; unfold off; omega))
    · have hil : i = U.length := by omega
      subst hil
      repeat' (first
        | ((with_reducible apply Gr.side) ; with_reducible assumption)
        | ((with_reducible apply Gr.side) ; (repeat (first | exact Gr.refl _ _ | assumption | with_reducible refine Gr.trans ?_ (Gr.boxN _ _ _ _ _) | refine Gr.setNew ?_ (by first | exact Nat.le_refl _ | (simp only [newB_length, List.length_set, List.length_append, List.length_singleton]; omega) | omega) _ | refine Gr.addN ?_ _ | refine Gr.newN ?_ _ _ _ | exact Gr.trans (by assumption) (by assumption) | refine Gr.trans ?_ (by assumption) | refine Gr.trans (by assumption) ?_)) ; (first | done | fail))
        | ((with_reducible refine Side.intro ?_) <;> (first
        | with_reducible rfl
        | omega
        | assumption
        | exact Nat.le_of_ble_eq_true rfl
        | (simp only [bs_length, List.length_append, List.length_cons, List.length_nil, List.length_take, List.length_drop, List.length_set, List.length_replicate]; omega)
        | exact .inl (by omega)
        | exact .inr (.inl ⟨rfl, by (simp only [bs_length, List.length_append, List.length_cons, List.length_nil, List.length_take, List.length_drop, List.length_set, List.length_replicate]; omega)⟩)
        | exact Ref.ok_refl _ _
        | (simp only [List.append_nil, List.nil_append, List.map_nil]; first | exact List.nodup_nil | exact nodup_bid1 _ | exact nodup_bid2 (by assumption))
        | ((first | refine fresh_tup ?_ | skip); (repeat (first | exact fresh_sp _ |  exact FreshA.sl _ _ FreshA_bs | exact FreshA.sl _ _ FreshA_is | exact FreshA.nils | exact FreshA.nilp | exact FreshA.int _ _ | exact FreshA.bool _ | exact FreshA.str _ | exact fresh_nil | refine fresh_cons ?_ ?_ | with_reducible refine fresh_aggR ?_ | with_reducible refine fresh_agg ?_ | with_reducible exact fresh_nilA | with_reducible refine fresh_consA ?_ ?_)); done)
        | exact rfl
        | (simp; done)
        ))
        | ((conv => whnf) <;> (first
        | (with_reducible refine and_same ?_)
        | (with_reducible refine and_side ?_ ?_)
        | (with_reducible refine Br.yes rfl ?_)
        | ((with_reducible apply Br.yes) ; (focus omega))
        | ((with_reducible apply Br.no) ; (focus omega))
        | ((with_reducible apply Br.no) ; (focus assumption))
        | ((with_reducible apply Br.yes) ; (focus assumption))
        | ((with_reducible apply Br.yes) ; (focus ((with_reducible refine And.intro ?_ ?_) ; (repeat' (first | with_reducible rfl | exact True.intro | with_reducible refine And.intro ?_ ?_ | omega | assumption)) ; (first | done | fail))))
        | (with_reducible refine Br.mk (fun _ => ?_) (fun _ => ?_))
        | (with_reducible refine Both.mk ?_ ?_)
        | ((with_reducible apply blkAt_intro) ; (focus (first
        | exact rfl
        | ((repeat (first
        | assumption
        | exact get_new
        | exact get_set (by assumption)
        | exact get_set get_new
        | with_reducible apply get_set
        | apply get_set
        | apply get_old
        | (apply get_set_ne; (focus (first | omega | (simp only [newB_length, List.length_set, List.length_append, List.length_singleton, List.length_nil]; omega))))
        )); done)
        )) ; (focus (first | rfl | assumption | omega)) ; (try dsimp only))
        | ((with_reducible apply nthR_sp) ; (focus assumption))
        | ((with_reducible apply nthR_bk) ; (focus assumption))
        | ((with_reducible apply nthR_dat) ; (focus assumption))
        | ((with_reducible apply nthR_bs1) ; (focus assumption))
        | ((with_reducible apply nthR_is1) ; (focus assumption))
        | ((with_reducible apply appendR_lit) ; (focus (first
        | exact rfl
        | ((repeat (first
        | assumption
        | exact get_new
        | exact get_set (by assumption)
        | exact get_set get_new
        | with_reducible apply get_set
        | apply get_set
        | apply get_old
        | (apply get_set_ne; (focus (first | omega | (simp only [newB_length, List.length_set, List.length_append, List.length_singleton, List.length_nil]; omega))))
        )); done)
        )) ; (focus (first | rfl | assumption)) ; (focus rfl) ; (focus rfl) ; (focus rfl) ; (focus (first | exact Nat.zero_le _ | omega | (simp; done) | (simp; omega))) ; (try dsimp only))
        | (with_reducible refine appendR_nil ?_ ?_)
        | ((with_reducible apply lenR_own) ; (focus assumption))
        | ((with_reducible apply lenR_own) ; (focus (apply Own.upTo ; (focus assumption) ; (repeat (first | exact Gr.refl _ _ | assumption | with_reducible refine Gr.trans ?_ (Gr.boxN _ _ _ _ _) | refine Gr.setNew ?_ (by first | exact Nat.le_refl _ | (simp only [newB_length, List.length_set, List.length_append, List.length_singleton]; omega) | omega) _ | refine Gr.addN ?_ _ | refine Gr.newN ?_ _ _ _ | exact Gr.trans (by assumption) (by assumption) | refine Gr.trans ?_ (by assumption) | refine Gr.trans (by assumption) ?_)) ; (first | done | fail))))
        | ((with_reducible apply rowsR_own) ; (focus assumption))
        | ((with_reducible apply rowsR_own) ; (focus (apply Own.upTo ; (focus assumption) ; (repeat (first | exact Gr.refl _ _ | assumption | with_reducible refine Gr.trans ?_ (Gr.boxN _ _ _ _ _) | refine Gr.setNew ?_ (by first | exact Nat.le_refl _ | (simp only [newB_length, List.length_set, List.length_append, List.length_singleton]; omega) | omega) _ | refine Gr.addN ?_ _ | refine Gr.newN ?_ _ _ _ | exact Gr.trans (by assumption) (by assumption) | refine Gr.trans ?_ (by assumption) | refine Gr.trans (by assumption) ?_)) ; (first | done | fail))))
        | ((with_reducible apply ia_own) ; (focus assumption))
        | ((with_reducible apply ia_own) ; (focus (apply Own.upTo ; (focus assumption) ; (repeat (first | exact Gr.refl _ _ | assumption | with_reducible refine Gr.trans ?_ (Gr.boxN _ _ _ _ _) | refine Gr.setNew ?_ (by first | exact Nat.le_refl _ | (simp only [newB_length, List.length_set, List.length_append, List.length_singleton]; omega) | omega) _ | refine Gr.addN ?_ _ | refine Gr.newN ?_ _ _ _ | exact Gr.trans (by assumption) (by assumption) | refine Gr.trans ?_ (by assumption) | refine Gr.trans (by assumption) ?_)) ; (first | done | fail))))
        | (with_reducible refine ia_sl ?_ ?_)
        | ((with_reducible apply NestR.ia) ; (focus assumption))
        | ((with_reducible apply NestR.lenW) ; (focus assumption))
        | ((with_reducible apply NestR.rowsW) ; (focus assumption))
        | ((with_reducible apply nest_nth) ; (focus assumption))
        | (with_reducible refine IaW.of ?_)
        | (with_reducible refine SliceW.of ?_)
        | ((with_reducible apply AppC.raw) ; (focus assumption))
        | (with_reducible refine AppC.frz ?_)
        | (with_reducible refine EqnW.of ?_)
        | ((with_reducible apply out_own) ; (focus assumption))
        | (with_reducible refine OutW.of ?_)
        | ((with_reducible apply NOut.own) ; (focus assumption))
        | (with_reducible refine NOut.lit ?_)
        | (with_reducible refine nthR_z ?_)
        | ((with_reducible apply nthR_left) ; (focus (first | omega | (simp only [List.length_append, List.length_cons, List.length_nil, List.length_take, List.length_drop, bs_length]; omega))))
        | (with_reducible refine lenR_sl ?_)
        | (with_reducible refine lenR_nils ?_)
        | (with_reducible refine lenR_rsl ?_)
        | (with_reducible refine rowsR_sl ?_)
        | (with_reducible refine rowsR_nils ?_)
        | (with_reducible refine rowsR_rsl ?_)
        | (with_reducible refine lenR_slx ?_)
        | (with_reducible refine rowsR_slx ?_)
        | (with_reducible refine appendR_slx ?_ ?_ ?_)
        | ((with_reducible apply bytesR_intro) ; (focus (first | rfl | (simp only [bs_take, bs_drop, bs_append]; rfl))))
        | ((with_reducible apply nthR_bs) ; (focus (first | omega | (simp only [List.length_append, List.length_cons, List.length_nil, List.length_take, List.length_drop, bs_length]; omega))))
        | (with_reducible intro _)
        ))
        )
      all_goals (conv => whnf)
      all_goals (try dsimp only)
      refine loop_at (α := Nat × List UInt8 × AH) (fun a => [(74, .int .i64 a.1)]) (fun a => a.2.2) (fun a => a.1 ≤ G.length ∧ a.2.2[H4.length]? = some { sz := 1, els := bs a.2.1, gen := 0, wr := true, pure := true } ∧ a.2.1.length = off fr to ∧ (∀ (k : Nat) u d, U[k]? = some u → D[k]? = some d → At a.2.1 (off fr u.1) (ub u d)) ∧ (∀ (k : Nat) g, k < a.1 → G[k]? = some g → At a.2.1 (off fr g.1) (fb G k g)) ∧ Own a.2.2 2 z (sp G) ∧ Own a.2.2 2 c (sp (chn G)) ∧ Own a.2.2 1 h (is (hdsL G))) (fun a => G.length - a.1) (0, p, σ) ⟨Nat.zero_le _, hb, hpl, fun k u d h1 h2 => hAt k u d (List.getElem?_eq_some_iff.1 h1).1 h1 h2, fun k g hk => by dsimp only at hk; omega, hz1, hc1, hh1⟩ rfl rfl ?_
      clear hz1 hc1 hh1 hb hpb hlb hAt hpl
      rintro ⟨j, p, σ⟩ ⟨hj, hb, hpl, hAt, hAg, hz1, hc1, hh1⟩
      dsimp only at hj hb hpl hAt hAg hz1 hc1 hh1 ⊢
      have hpb := bs_length p
      have hlb := (List.getElem?_eq_some_iff.1 hb).1
      by_cases hjl : j < G.length
      · obtain ⟨g, hgg, hgg'⟩ := getN hjl
        have hgm : g ∈ gp to fr U := by rw [hGd]; exact List.mem_of_getElem? hgg'
        have hgb := T.g hgm
        have hch := chn_get hjl
        have hch' : (chn G)[((j : Nat) : Int).toNat]? = some (nxt G j, prv G j) := by rw [Int.toNat_natCast]; exact hch
        have n1 := nxt_bd hgo j
        have n2 := prv_bd hgo j
        have hfl := fb_length (G := G) (j := j) hgb.2.2
        repeat' (first
          | ((with_reducible apply Gr.side) ; with_reducible assumption)
          | ((with_reducible apply Gr.side) ; (repeat (first | exact Gr.refl _ _ | assumption | with_reducible refine Gr.trans ?_ (Gr.boxN _ _ _ _ _) | refine Gr.setNew ?_ (by first | exact Nat.le_refl _ | (simp only [newB_length, List.length_set, List.length_append, List.length_singleton]; omega) | omega) _ | refine Gr.addN ?_ _ | refine Gr.newN ?_ _ _ _ | exact Gr.trans (by assumption) (by assumption) | refine Gr.trans ?_ (by assumption) | refine Gr.trans (by assumption) ?_)) ; (first | done | fail))
          | ((with_reducible refine Side.intro ?_) <;> (first
          | with_reducible rfl
          | omega
          | assumption
          | exact Nat.le_of_ble_eq_true rfl
          | (simp only [bs_length, List.length_append, List.length_cons, List.length_nil, List.length_take, List.length_drop, List.length_set, List.length_replicate]; omega)
          | exact .inl (by omega)
          | exact .inr (.inl ⟨rfl, by (simp only [bs_length, List.length_append, List.length_cons, List.length_nil, List.length_take, List.length_drop, List.length_set, List.length_replicate]; omega)⟩)
          | exact Ref.ok_refl _ _
          | (simp only [List.append_nil, List.nil_append, List.map_nil]; first | exact List.nodup_nil | exact nodup_bid1 _ | exact nodup_bid2 (by assumption))
          | ((first | refine fresh_tup ?_ | skip); (repeat (first | exact fresh_sp _ |  exact FreshA.sl _ _ FreshA_bs | exact FreshA.sl _ _ FreshA_is | exact FreshA.nils | exact FreshA.nilp | exact FreshA.int _ _ | exact FreshA.bool _ | exact FreshA.str _ | exact fresh_nil | refine fresh_cons ?_ ?_ | with_reducible refine fresh_aggR ?_ | with_reducible refine fresh_agg ?_ | with_reducible exact fresh_nilA | with_reducible refine fresh_consA ?_ ?_)); done)
          | exact rfl
          | (simp; done)
          ))
          | ((conv => whnf) <;> (first
          | (with_reducible refine and_same ?_)
          | (with_reducible refine and_side ?_ ?_)
          | (with_reducible refine Br.yes rfl ?_)
          | ((with_reducible apply Br.yes) ; (focus omega))
          | ((with_reducible apply Br.no) ; (focus omega))
          | ((with_reducible apply Br.no) ; (focus assumption))
          | ((with_reducible apply Br.yes) ; (focus assumption))
          | ((with_reducible apply Br.yes) ; (focus ((with_reducible refine And.intro ?_ ?_) ; (repeat' (first | with_reducible rfl | exact True.intro | with_reducible refine And.intro ?_ ?_ | omega | assumption)) ; (first | done | fail))))
          | (with_reducible refine Br.mk (fun _ => ?_) (fun _ => ?_))
          | (with_reducible refine Both.mk ?_ ?_)
          | ((with_reducible apply blkAt_intro) ; (focus (first
          | exact rfl
          | ((repeat (first
          | assumption
          | exact get_new
          | exact get_set (by assumption)
          | exact get_set get_new
          | with_reducible apply get_set
          | apply get_set
          | apply get_old
          | (apply get_set_ne; (focus (first | omega | (simp only [newB_length, List.length_set, List.length_append, List.length_singleton, List.length_nil]; omega))))
          )); done)
          )) ; (focus (first | rfl | assumption | omega)) ; (try dsimp only))
          | ((with_reducible apply nthR_sp) ; (focus assumption))
          | ((with_reducible apply nthR_bk) ; (focus assumption))
          | ((with_reducible apply nthR_dat) ; (focus assumption))
          | ((with_reducible apply nthR_bs1) ; (focus assumption))
          | ((with_reducible apply nthR_is1) ; (focus assumption))
          | ((with_reducible apply appendR_lit) ; (focus (first
          | exact rfl
          | ((repeat (first
          | assumption
          | exact get_new
          | exact get_set (by assumption)
          | exact get_set get_new
          | with_reducible apply get_set
          | apply get_set
          | apply get_old
          | (apply get_set_ne; (focus (first | omega | (simp only [newB_length, List.length_set, List.length_append, List.length_singleton, List.length_nil]; omega))))
          )); done)
          )) ; (focus (first | rfl | assumption)) ; (focus rfl) ; (focus rfl) ; (focus rfl) ; (focus (first | exact Nat.zero_le _ | omega | (simp; done) | (simp; omega))) ; (try dsimp only))
          | (with_reducible refine appendR_nil ?_ ?_)
          | ((with_reducible apply lenR_own) ; (focus assumption))
          | ((with_reducible apply lenR_own) ; (focus (apply Own.upTo ; (focus assumption) ; (repeat (first | exact Gr.refl _ _ | assumption | with_reducible refine Gr.trans ?_ (Gr.boxN _ _ _ _ _) | refine Gr.setNew ?_ (by first | exact Nat.le_refl _ | (simp only [newB_length, List.length_set, List.length_append, List.length_singleton]; omega) | omega) _ | refine Gr.addN ?_ _ | refine Gr.newN ?_ _ _ _ | exact Gr.trans (by assumption) (by assumption) | refine Gr.trans ?_ (by assumption) | refine Gr.trans (by assumption) ?_)) ; (first | done | fail))))
          | ((with_reducible apply rowsR_own) ; (focus assumption))
          | ((with_reducible apply rowsR_own) ; (focus (apply Own.upTo ; (focus assumption) ; (repeat (first | exact Gr.refl _ _ | assumption | with_reducible refine Gr.trans ?_ (Gr.boxN _ _ _ _ _) | refine Gr.setNew ?_ (by first | exact Nat.le_refl _ | (simp only [newB_length, List.length_set, List.length_append, List.length_singleton]; omega) | omega) _ | refine Gr.addN ?_ _ | refine Gr.newN ?_ _ _ _ | exact Gr.trans (by assumption) (by assumption) | refine Gr.trans ?_ (by assumption) | refine Gr.trans (by assumption) ?_)) ; (first | done | fail))))
          | ((with_reducible apply ia_own) ; (focus assumption))
          | ((with_reducible apply ia_own) ; (focus (apply Own.upTo ; (focus assumption) ; (repeat (first | exact Gr.refl _ _ | assumption | with_reducible refine Gr.trans ?_ (Gr.boxN _ _ _ _ _) | refine Gr.setNew ?_ (by first | exact Nat.le_refl _ | (simp only [newB_length, List.length_set, List.length_append, List.length_singleton]; omega) | omega) _ | refine Gr.addN ?_ _ | refine Gr.newN ?_ _ _ _ | exact Gr.trans (by assumption) (by assumption) | refine Gr.trans ?_ (by assumption) | refine Gr.trans (by assumption) ?_)) ; (first | done | fail))))
          | (with_reducible refine ia_sl ?_ ?_)
          | ((with_reducible apply NestR.ia) ; (focus assumption))
          | ((with_reducible apply NestR.lenW) ; (focus assumption))
          | ((with_reducible apply NestR.rowsW) ; (focus assumption))
          | ((with_reducible apply nest_nth) ; (focus assumption))
          | (with_reducible refine IaW.of ?_)
          | (with_reducible refine SliceW.of ?_)
          | ((with_reducible apply AppC.raw) ; (focus assumption))
          | (with_reducible refine AppC.frz ?_)
          | (with_reducible refine EqnW.of ?_)
          | ((with_reducible apply out_own) ; (focus assumption))
          | (with_reducible refine OutW.of ?_)
          | ((with_reducible apply NOut.own) ; (focus assumption))
          | (with_reducible refine NOut.lit ?_)
          | (with_reducible refine nthR_z ?_)
          | ((with_reducible apply nthR_left) ; (focus (first | omega | (simp only [List.length_append, List.length_cons, List.length_nil, List.length_take, List.length_drop, bs_length]; omega))))
          | (with_reducible refine lenR_sl ?_)
          | (with_reducible refine lenR_nils ?_)
          | (with_reducible refine lenR_rsl ?_)
          | (with_reducible refine rowsR_sl ?_)
          | (with_reducible refine rowsR_nils ?_)
          | (with_reducible refine rowsR_rsl ?_)
          | (with_reducible refine lenR_slx ?_)
          | (with_reducible refine rowsR_slx ?_)
          | (with_reducible refine appendR_slx ?_ ?_ ?_)
          | ((with_reducible apply bytesR_intro) ; (focus (first | rfl | (simp only [bs_take, bs_drop, bs_append]; rfl))))
          | ((with_reducible apply nthR_bs) ; (focus (first | omega | (simp only [List.length_append, List.length_cons, List.length_nil, List.length_take, List.length_drop, bs_length]; omega))))
          | (with_reducible intro _)
          ))
          )
        all_goals (conv => whnf)
        all_goals (try dsimp only)
        refine Of_call [nxt G j, prv G j] (by simp) (Looks.ownis (.mk' (sp := []) (by (first | exact rfl | ((repeat (first | assumption | exact get_new | exact get_set (by assumption) | exact get_set get_new | with_reducible apply get_set | apply get_set | apply get_old | (apply get_set_ne; (focus (first | omega | (simp only [newB_length, List.length_set, List.length_append, List.length_singleton, List.length_nil]; omega)))))); done))) rfl rfl)) fun H5 y5 hg5 hy5 hyn5 => ?_
        have hR : ofR [nxt G j, prv G j] = cat [nxt G j, prv G j] := by
          rw [ofR, if_pos]
          simp [mayW]; omega
        rw [hR] at hy5
        have hcat : (cat [nxt G j, prv G j]).length = 16 := by rw [cat_length]; rfl
        have g5 : Gr σ H5 none := Gr.trans (by (repeat (first | exact Gr.refl _ _ | assumption | with_reducible refine Gr.trans ?_ (Gr.boxN _ _ _ _ _) | refine Gr.setNew ?_ (by first | exact Nat.le_refl _ | (simp only [newB_length, List.length_set, List.length_append, List.length_singleton]; omega) | omega) _ | refine Gr.addN ?_ _ | refine Gr.newN ?_ _ _ _ | exact Gr.trans (by assumption) (by assumption) | refine Gr.trans ?_ (by assumption) | refine Gr.trans (by assumption) ?_))) hg5
        have hb5 := gr_get g5 hb
        have hbox := gr_get hg5 (get_old (get_set get_new))
        have hlb5 := (List.getElem?_eq_some_iff.1 hb5).1
        repeat' (first
          | ((with_reducible apply Gr.side) ; with_reducible assumption)
          | ((with_reducible apply Gr.side) ; (repeat (first | exact Gr.refl _ _ | assumption | with_reducible refine Gr.trans ?_ (Gr.boxN _ _ _ _ _) | refine Gr.setNew ?_ (by first | exact Nat.le_refl _ | (simp only [newB_length, List.length_set, List.length_append, List.length_singleton]; omega) | omega) _ | refine Gr.addN ?_ _ | refine Gr.newN ?_ _ _ _ | exact Gr.trans (by assumption) (by assumption) | refine Gr.trans ?_ (by assumption) | refine Gr.trans (by assumption) ?_)) ; (first | done | fail))
          | ((with_reducible refine Side.intro ?_) <;> (first
          | with_reducible rfl
          | omega
          | assumption
          | exact Nat.le_of_ble_eq_true rfl
          | (simp only [bs_length, List.length_append, List.length_cons, List.length_nil, List.length_take, List.length_drop, List.length_set, List.length_replicate]; omega)
          | exact .inl (by omega)
          | exact .inr (.inl ⟨rfl, by (simp only [bs_length, List.length_append, List.length_cons, List.length_nil, List.length_take, List.length_drop, List.length_set, List.length_replicate]; omega)⟩)
          | exact Ref.ok_refl _ _
          | (simp only [List.append_nil, List.nil_append, List.map_nil]; first | exact List.nodup_nil | exact nodup_bid1 _ | exact nodup_bid2 (by assumption))
          | ((first | refine fresh_tup ?_ | skip); (repeat (first | exact fresh_sp _ |  exact FreshA.sl _ _ FreshA_bs | exact FreshA.sl _ _ FreshA_is | exact FreshA.nils | exact FreshA.nilp | exact FreshA.int _ _ | exact FreshA.bool _ | exact FreshA.str _ | exact fresh_nil | refine fresh_cons ?_ ?_ | with_reducible refine fresh_aggR ?_ | with_reducible refine fresh_agg ?_ | with_reducible exact fresh_nilA | with_reducible refine fresh_consA ?_ ?_)); done)
          | exact rfl
          | (simp; done)
          ))
          | ((conv => whnf) <;> (first
          | (with_reducible refine and_same ?_)
          | (with_reducible refine and_side ?_ ?_)
          | (with_reducible refine Br.yes rfl ?_)
          | ((with_reducible apply Br.yes) ; (focus omega))
          | ((with_reducible apply Br.no) ; (focus omega))
          | ((with_reducible apply Br.no) ; (focus assumption))
          | ((with_reducible apply Br.yes) ; (focus assumption))
          | ((with_reducible apply Br.yes) ; (focus ((with_reducible refine And.intro ?_ ?_) ; (repeat' (first | with_reducible rfl | exact True.intro | with_reducible refine And.intro ?_ ?_ | omega | assumption)) ; (first | done | fail))))
          | (with_reducible refine Br.mk (fun _ => ?_) (fun _ => ?_))
          | (with_reducible refine Both.mk ?_ ?_)
          | ((with_reducible apply blkAt_intro) ; (focus (first
          | exact rfl
          | ((repeat (first
          | assumption
          | exact get_new
          | exact get_set (by assumption)
          | exact get_set get_new
          | with_reducible apply get_set
          | apply get_set
          | apply get_old
          | (apply get_set_ne; (focus (first | omega | (simp only [newB_length, List.length_set, List.length_append, List.length_singleton, List.length_nil]; omega))))
          )); done)
          )) ; (focus (first | rfl | assumption | omega)) ; (try dsimp only))
          | ((with_reducible apply nthR_sp) ; (focus assumption))
          | ((with_reducible apply nthR_bk) ; (focus assumption))
          | ((with_reducible apply nthR_dat) ; (focus assumption))
          | ((with_reducible apply nthR_bs1) ; (focus assumption))
          | ((with_reducible apply nthR_is1) ; (focus assumption))
          | ((with_reducible apply appendR_lit) ; (focus (first
          | exact rfl
          | ((repeat (first
          | assumption
          | exact get_new
          | exact get_set (by assumption)
          | exact get_set get_new
          | with_reducible apply get_set
          | apply get_set
          | apply get_old
          | (apply get_set_ne; (focus (first | omega | (simp only [newB_length, List.length_set, List.length_append, List.length_singleton, List.length_nil]; omega))))
          )); done)
          )) ; (focus (first | rfl | assumption)) ; (focus rfl) ; (focus rfl) ; (focus rfl) ; (focus (first | exact Nat.zero_le _ | omega | (simp; done) | (simp; omega))) ; (try dsimp only))
          | (with_reducible refine appendR_nil ?_ ?_)
          | ((with_reducible apply lenR_own) ; (focus assumption))
          | ((with_reducible apply lenR_own) ; (focus (apply Own.upTo ; (focus assumption) ; (repeat (first | exact Gr.refl _ _ | assumption | with_reducible refine Gr.trans ?_ (Gr.boxN _ _ _ _ _) | refine Gr.setNew ?_ (by first | exact Nat.le_refl _ | (simp only [newB_length, List.length_set, List.length_append, List.length_singleton]; omega) | omega) _ | refine Gr.addN ?_ _ | refine Gr.newN ?_ _ _ _ | exact Gr.trans (by assumption) (by assumption) | refine Gr.trans ?_ (by assumption) | refine Gr.trans (by assumption) ?_)) ; (first | done | fail))))
          | ((with_reducible apply rowsR_own) ; (focus assumption))
          | ((with_reducible apply rowsR_own) ; (focus (apply Own.upTo ; (focus assumption) ; (repeat (first | exact Gr.refl _ _ | assumption | with_reducible refine Gr.trans ?_ (Gr.boxN _ _ _ _ _) | refine Gr.setNew ?_ (by first | exact Nat.le_refl _ | (simp only [newB_length, List.length_set, List.length_append, List.length_singleton]; omega) | omega) _ | refine Gr.addN ?_ _ | refine Gr.newN ?_ _ _ _ | exact Gr.trans (by assumption) (by assumption) | refine Gr.trans ?_ (by assumption) | refine Gr.trans (by assumption) ?_)) ; (first | done | fail))))
          | ((with_reducible apply ia_own) ; (focus assumption))
          | ((with_reducible apply ia_own) ; (focus (apply Own.upTo ; (focus assumption) ; (repeat (first | exact Gr.refl _ _ | assumption | with_reducible refine Gr.trans ?_ (Gr.boxN _ _ _ _ _) | refine Gr.setNew ?_ (by first | exact Nat.le_refl _ | (simp only [newB_length, List.length_set, List.length_append, List.length_singleton]; omega) | omega) _ | refine Gr.addN ?_ _ | refine Gr.newN ?_ _ _ _ | exact Gr.trans (by assumption) (by assumption) | refine Gr.trans ?_ (by assumption) | refine Gr.trans (by assumption) ?_)) ; (first | done | fail))))
          | (with_reducible refine ia_sl ?_ ?_)
          | ((with_reducible apply NestR.ia) ; (focus assumption))
          | ((with_reducible apply NestR.lenW) ; (focus assumption))
          | ((with_reducible apply NestR.rowsW) ; (focus assumption))
          | ((with_reducible apply nest_nth) ; (focus assumption))
          | (with_reducible refine IaW.of ?_)
          | (with_reducible refine SliceW.of ?_)
          | ((with_reducible apply AppC.raw) ; (focus assumption))
          | (with_reducible refine AppC.frz ?_)
          | (with_reducible refine EqnW.of ?_)
          | ((with_reducible apply out_own) ; (focus assumption))
          | (with_reducible refine OutW.of ?_)
          | ((with_reducible apply NOut.own) ; (focus assumption))
          | (with_reducible refine NOut.lit ?_)
          | (with_reducible refine nthR_z ?_)
          | ((with_reducible apply nthR_left) ; (focus (first | omega | (simp only [List.length_append, List.length_cons, List.length_nil, List.length_take, List.length_drop, bs_length]; omega))))
          | (with_reducible refine lenR_sl ?_)
          | (with_reducible refine lenR_nils ?_)
          | (with_reducible refine lenR_rsl ?_)
          | (with_reducible refine rowsR_sl ?_)
          | (with_reducible refine rowsR_nils ?_)
          | (with_reducible refine rowsR_rsl ?_)
          | (with_reducible refine lenR_slx ?_)
          | (with_reducible refine rowsR_slx ?_)
          | (with_reducible refine appendR_slx ?_ ?_ ?_)
          | ((with_reducible apply bytesR_intro) ; (focus (first | rfl | (simp only [bs_take, bs_drop, bs_append]; rfl))))
          | ((with_reducible apply nthR_bs) ; (focus (first | omega | (simp only [List.length_append, List.length_cons, List.length_nil, List.length_take, List.length_drop, bs_length]; omega))))
          | (with_reducible intro _)
          ))
          )
        all_goals (conv => whnf)
        all_goals (try dsimp only)
        refine piece_call g.2 0 (cat [nxt G j, prv G j]) (by omega) (by omega) (by omega) (by omega) (by rw [hcat]; omega) (.ownbs hy5) fun H6 y6 hg6 hy6 hyn6 => ?_
        have g6 : Gr σ H6 none := Gr.trans g5 hg6
        have hb6 := gr_get hg6 hb5
        have hbl := bs_length (pc g.2 0 (cat [nxt G j, prv G j]))
        repeat' (first
          | ((with_reducible apply Gr.side) ; with_reducible assumption)
          | ((with_reducible apply Gr.side) ; (repeat (first | exact Gr.refl _ _ | assumption | with_reducible refine Gr.trans ?_ (Gr.boxN _ _ _ _ _) | refine Gr.setNew ?_ (by first | exact Nat.le_refl _ | (simp only [newB_length, List.length_set, List.length_append, List.length_singleton]; omega) | omega) _ | refine Gr.addN ?_ _ | refine Gr.newN ?_ _ _ _ | exact Gr.trans (by assumption) (by assumption) | refine Gr.trans ?_ (by assumption) | refine Gr.trans (by assumption) ?_)) ; (first | done | fail))
          | ((with_reducible refine Side.intro ?_) <;> (first
          | with_reducible rfl
          | omega
          | assumption
          | exact Nat.le_of_ble_eq_true rfl
          | (simp only [bs_length, List.length_append, List.length_cons, List.length_nil, List.length_take, List.length_drop, List.length_set, List.length_replicate]; omega)
          | exact .inl (by omega)
          | exact .inr (.inl ⟨rfl, by (simp only [bs_length, List.length_append, List.length_cons, List.length_nil, List.length_take, List.length_drop, List.length_set, List.length_replicate]; omega)⟩)
          | exact Ref.ok_refl _ _
          | (simp only [List.append_nil, List.nil_append, List.map_nil]; first | exact List.nodup_nil | exact nodup_bid1 _ | exact nodup_bid2 (by assumption))
          | ((first | refine fresh_tup ?_ | skip); (repeat (first | exact fresh_sp _ |  exact FreshA.sl _ _ FreshA_bs | exact FreshA.sl _ _ FreshA_is | exact FreshA.nils | exact FreshA.nilp | exact FreshA.int _ _ | exact FreshA.bool _ | exact FreshA.str _ | exact fresh_nil | refine fresh_cons ?_ ?_ | with_reducible refine fresh_aggR ?_ | with_reducible refine fresh_agg ?_ | with_reducible exact fresh_nilA | with_reducible refine fresh_consA ?_ ?_)); done)
          | exact rfl
          | (simp; done)
          ))
          | ((conv => whnf) <;> (first
          | (with_reducible refine and_same ?_)
          | (with_reducible refine and_side ?_ ?_)
          | (with_reducible refine Br.yes rfl ?_)
          | ((with_reducible apply Br.yes) ; (focus omega))
          | ((with_reducible apply Br.no) ; (focus omega))
          | ((with_reducible apply Br.no) ; (focus assumption))
          | ((with_reducible apply Br.yes) ; (focus assumption))
          | ((with_reducible apply Br.yes) ; (focus ((with_reducible refine And.intro ?_ ?_) ; (repeat' (first | with_reducible rfl | exact True.intro | with_reducible refine And.intro ?_ ?_ | omega | assumption)) ; (first | done | fail))))
          | (with_reducible refine Br.mk (fun _ => ?_) (fun _ => ?_))
          | (with_reducible refine Both.mk ?_ ?_)
          | ((with_reducible apply blkAt_intro) ; (focus (first
          | exact rfl
          | ((repeat (first
          | assumption
          | exact get_new
          | exact get_set (by assumption)
          | exact get_set get_new
          | with_reducible apply get_set
          | apply get_set
          | apply get_old
          | (apply get_set_ne; (focus (first | omega | (simp only [newB_length, List.length_set, List.length_append, List.length_singleton, List.length_nil]; omega))))
          )); done)
          )) ; (focus (first | rfl | assumption | omega)) ; (try dsimp only))
          | ((with_reducible apply nthR_sp) ; (focus assumption))
          | ((with_reducible apply nthR_bk) ; (focus assumption))
          | ((with_reducible apply nthR_dat) ; (focus assumption))
          | ((with_reducible apply nthR_bs1) ; (focus assumption))
          | ((with_reducible apply nthR_is1) ; (focus assumption))
          | ((with_reducible apply appendR_lit) ; (focus (first
          | exact rfl
          | ((repeat (first
          | assumption
          | exact get_new
          | exact get_set (by assumption)
          | exact get_set get_new
          | with_reducible apply get_set
          | apply get_set
          | apply get_old
          | (apply get_set_ne; (focus (first | omega | (simp only [newB_length, List.length_set, List.length_append, List.length_singleton, List.length_nil]; omega))))
          )); done)
          )) ; (focus (first | rfl | assumption)) ; (focus rfl) ; (focus rfl) ; (focus rfl) ; (focus (first | exact Nat.zero_le _ | omega | (simp; done) | (simp; omega))) ; (try dsimp only))
          | (with_reducible refine appendR_nil ?_ ?_)
          | ((with_reducible apply lenR_own) ; (focus assumption))
          | ((with_reducible apply lenR_own) ; (focus (apply Own.upTo ; (focus assumption) ; (repeat (first | exact Gr.refl _ _ | assumption | with_reducible refine Gr.trans ?_ (Gr.boxN _ _ _ _ _) | refine Gr.setNew ?_ (by first | exact Nat.le_refl _ | (simp only [newB_length, List.length_set, List.length_append, List.length_singleton]; omega) | omega) _ | refine Gr.addN ?_ _ | refine Gr.newN ?_ _ _ _ | exact Gr.trans (by assumption) (by assumption) | refine Gr.trans ?_ (by assumption) | refine Gr.trans (by assumption) ?_)) ; (first | done | fail))))
          | ((with_reducible apply rowsR_own) ; (focus assumption))
          | ((with_reducible apply rowsR_own) ; (focus (apply Own.upTo ; (focus assumption) ; (repeat (first | exact Gr.refl _ _ | assumption | with_reducible refine Gr.trans ?_ (Gr.boxN _ _ _ _ _) | refine Gr.setNew ?_ (by first | exact Nat.le_refl _ | (simp only [newB_length, List.length_set, List.length_append, List.length_singleton]; omega) | omega) _ | refine Gr.addN ?_ _ | refine Gr.newN ?_ _ _ _ | exact Gr.trans (by assumption) (by assumption) | refine Gr.trans ?_ (by assumption) | refine Gr.trans (by assumption) ?_)) ; (first | done | fail))))
          | ((with_reducible apply ia_own) ; (focus assumption))
          | ((with_reducible apply ia_own) ; (focus (apply Own.upTo ; (focus assumption) ; (repeat (first | exact Gr.refl _ _ | assumption | with_reducible refine Gr.trans ?_ (Gr.boxN _ _ _ _ _) | refine Gr.setNew ?_ (by first | exact Nat.le_refl _ | (simp only [newB_length, List.length_set, List.length_append, List.length_singleton]; omega) | omega) _ | refine Gr.addN ?_ _ | refine Gr.newN ?_ _ _ _ | exact Gr.trans (by assumption) (by assumption) | refine Gr.trans ?_ (by assumption) | refine Gr.trans (by assumption) ?_)) ; (first | done | fail))))
          | (with_reducible refine ia_sl ?_ ?_)
          | ((with_reducible apply NestR.ia) ; (focus assumption))
          | ((with_reducible apply NestR.lenW) ; (focus assumption))
          | ((with_reducible apply NestR.rowsW) ; (focus assumption))
          | ((with_reducible apply nest_nth) ; (focus assumption))
          | (with_reducible refine IaW.of ?_)
          | (with_reducible refine SliceW.of ?_)
          | ((with_reducible apply AppC.raw) ; (focus assumption))
          | (with_reducible refine AppC.frz ?_)
          | (with_reducible refine EqnW.of ?_)
          | ((with_reducible apply out_own) ; (focus assumption))
          | (with_reducible refine OutW.of ?_)
          | ((with_reducible apply NOut.own) ; (focus assumption))
          | (with_reducible refine NOut.lit ?_)
          | (with_reducible refine nthR_z ?_)
          | ((with_reducible apply nthR_left) ; (focus (first | omega | (simp only [List.length_append, List.length_cons, List.length_nil, List.length_take, List.length_drop, bs_length]; omega))))
          | (with_reducible refine lenR_sl ?_)
          | (with_reducible refine lenR_nils ?_)
          | (with_reducible refine lenR_rsl ?_)
          | (with_reducible refine rowsR_sl ?_)
          | (with_reducible refine rowsR_nils ?_)
          | (with_reducible refine rowsR_rsl ?_)
          | (with_reducible refine lenR_slx ?_)
          | (with_reducible refine rowsR_slx ?_)
          | (with_reducible refine appendR_slx ?_ ?_ ?_)
          | ((with_reducible apply bytesR_intro) ; (focus (first | rfl | (simp only [bs_take, bs_drop, bs_append]; rfl))))
          | ((with_reducible apply nthR_bs) ; (focus (first | omega | (simp only [List.length_append, List.length_cons, List.length_nil, List.length_take, List.length_drop, bs_length]; omega))))
          | (with_reducible intro _)
          ))
          )
        all_goals (conv => whnf)
        all_goals (try dsimp only)
        have eo : 0 + ((g.1 - fr) * 8).toNat = off fr g.1 := by unfold off; omega
        have eo2 : (off fr g.1 : Int) = 8 * (g.1 - fr) := by unfold off; omega
        refine copy_bs (p := p) (d := fb G j g) (sp := []) (by rw [List.append_nil]; exact hb6) rfl (by omega) (by omega) fun σ7 e7 => ?_
        rw [eo] at e7
        have hb7 : σ7[H4.length]? = some { sz := 1, els := bs (pt p (off fr g.1) (fb G j g)), gen := 0, wr := true, pure := true } := by rw [e7, List.append_nil]; exact get_set hb6
        have hz7 : Own σ7 2 z (sp G) := by rw [e7]; exact Own.keep (Gr.set _ _ _) (hz1.keepN g6) (.inr fun e => hzb e.symm)
        have hc7 : Own σ7 2 c (sp (chn G)) := by rw [e7]; exact Own.keep (Gr.set _ _ _) (hc1.keepN g6) (.inr fun e => hcb e.symm)
        have hh7 : Own σ7 1 h (is (hdsL G)) := by rw [e7]; exact Own.keep (Gr.set _ _ _) (hh1.keepN g6) (.inr fun e => hhb e.symm)
        clear e7
        have hin : off fr g.1 + (fb G j g).length ≤ p.length := by omega
        repeat' (first
          | ((with_reducible apply Gr.side) ; with_reducible assumption)
          | ((with_reducible apply Gr.side) ; (repeat (first | exact Gr.refl _ _ | assumption | with_reducible refine Gr.trans ?_ (Gr.boxN _ _ _ _ _) | refine Gr.setNew ?_ (by first | exact Nat.le_refl _ | (simp only [newB_length, List.length_set, List.length_append, List.length_singleton]; omega) | omega) _ | refine Gr.addN ?_ _ | refine Gr.newN ?_ _ _ _ | exact Gr.trans (by assumption) (by assumption) | refine Gr.trans ?_ (by assumption) | refine Gr.trans (by assumption) ?_)) ; (first | done | fail))
          | ((with_reducible refine Side.intro ?_) <;> (first
          | with_reducible rfl
          | omega
          | assumption
          | exact Nat.le_of_ble_eq_true rfl
          | (simp only [bs_length, List.length_append, List.length_cons, List.length_nil, List.length_take, List.length_drop, List.length_set, List.length_replicate]; omega)
          | exact .inl (by omega)
          | exact .inr (.inl ⟨rfl, by (simp only [bs_length, List.length_append, List.length_cons, List.length_nil, List.length_take, List.length_drop, List.length_set, List.length_replicate]; omega)⟩)
          | exact Ref.ok_refl _ _
          | (simp only [List.append_nil, List.nil_append, List.map_nil]; first | exact List.nodup_nil | exact nodup_bid1 _ | exact nodup_bid2 (by assumption))
          | ((first | refine fresh_tup ?_ | skip); (repeat (first | exact fresh_sp _ |  exact FreshA.sl _ _ FreshA_bs | exact FreshA.sl _ _ FreshA_is | exact FreshA.nils | exact FreshA.nilp | exact FreshA.int _ _ | exact FreshA.bool _ | exact FreshA.str _ | exact fresh_nil | refine fresh_cons ?_ ?_ | with_reducible refine fresh_aggR ?_ | with_reducible refine fresh_agg ?_ | with_reducible exact fresh_nilA | with_reducible refine fresh_consA ?_ ?_)); done)
          | exact rfl
          | (simp; done)
          ))
          | ((conv => whnf) <;> (first
          | (with_reducible refine and_same ?_)
          | (with_reducible refine and_side ?_ ?_)
          | (with_reducible refine Br.yes rfl ?_)
          | ((with_reducible apply Br.yes) ; (focus omega))
          | ((with_reducible apply Br.no) ; (focus omega))
          | ((with_reducible apply Br.no) ; (focus assumption))
          | ((with_reducible apply Br.yes) ; (focus assumption))
          | ((with_reducible apply Br.yes) ; (focus ((with_reducible refine And.intro ?_ ?_) ; (repeat' (first | with_reducible rfl | exact True.intro | with_reducible refine And.intro ?_ ?_ | omega | assumption)) ; (first | done | fail))))
          | (with_reducible refine Br.mk (fun _ => ?_) (fun _ => ?_))
          | (with_reducible refine Both.mk ?_ ?_)
          | ((with_reducible apply blkAt_intro) ; (focus (first
          | exact rfl
          | ((repeat (first
          | assumption
          | exact get_new
          | exact get_set (by assumption)
          | exact get_set get_new
          | with_reducible apply get_set
          | apply get_set
          | apply get_old
          | (apply get_set_ne; (focus (first | omega | (simp only [newB_length, List.length_set, List.length_append, List.length_singleton, List.length_nil]; omega))))
          )); done)
          )) ; (focus (first | rfl | assumption | omega)) ; (try dsimp only))
          | ((with_reducible apply nthR_sp) ; (focus assumption))
          | ((with_reducible apply nthR_bk) ; (focus assumption))
          | ((with_reducible apply nthR_dat) ; (focus assumption))
          | ((with_reducible apply nthR_bs1) ; (focus assumption))
          | ((with_reducible apply nthR_is1) ; (focus assumption))
          | ((with_reducible apply appendR_lit) ; (focus (first
          | exact rfl
          | ((repeat (first
          | assumption
          | exact get_new
          | exact get_set (by assumption)
          | exact get_set get_new
          | with_reducible apply get_set
          | apply get_set
          | apply get_old
          | (apply get_set_ne; (focus (first | omega | (simp only [newB_length, List.length_set, List.length_append, List.length_singleton, List.length_nil]; omega))))
          )); done)
          )) ; (focus (first | rfl | assumption)) ; (focus rfl) ; (focus rfl) ; (focus rfl) ; (focus (first | exact Nat.zero_le _ | omega | (simp; done) | (simp; omega))) ; (try dsimp only))
          | (with_reducible refine appendR_nil ?_ ?_)
          | ((with_reducible apply lenR_own) ; (focus assumption))
          | ((with_reducible apply lenR_own) ; (focus (apply Own.upTo ; (focus assumption) ; (repeat (first | exact Gr.refl _ _ | assumption | with_reducible refine Gr.trans ?_ (Gr.boxN _ _ _ _ _) | refine Gr.setNew ?_ (by first | exact Nat.le_refl _ | (simp only [newB_length, List.length_set, List.length_append, List.length_singleton]; omega) | omega) _ | refine Gr.addN ?_ _ | refine Gr.newN ?_ _ _ _ | exact Gr.trans (by assumption) (by assumption) | refine Gr.trans ?_ (by assumption) | refine Gr.trans (by assumption) ?_)) ; (first | done | fail))))
          | ((with_reducible apply rowsR_own) ; (focus assumption))
          | ((with_reducible apply rowsR_own) ; (focus (apply Own.upTo ; (focus assumption) ; (repeat (first | exact Gr.refl _ _ | assumption | with_reducible refine Gr.trans ?_ (Gr.boxN _ _ _ _ _) | refine Gr.setNew ?_ (by first | exact Nat.le_refl _ | (simp only [newB_length, List.length_set, List.length_append, List.length_singleton]; omega) | omega) _ | refine Gr.addN ?_ _ | refine Gr.newN ?_ _ _ _ | exact Gr.trans (by assumption) (by assumption) | refine Gr.trans ?_ (by assumption) | refine Gr.trans (by assumption) ?_)) ; (first | done | fail))))
          | ((with_reducible apply ia_own) ; (focus assumption))
          | ((with_reducible apply ia_own) ; (focus (apply Own.upTo ; (focus assumption) ; (repeat (first | exact Gr.refl _ _ | assumption | with_reducible refine Gr.trans ?_ (Gr.boxN _ _ _ _ _) | refine Gr.setNew ?_ (by first | exact Nat.le_refl _ | (simp only [newB_length, List.length_set, List.length_append, List.length_singleton]; omega) | omega) _ | refine Gr.addN ?_ _ | refine Gr.newN ?_ _ _ _ | exact Gr.trans (by assumption) (by assumption) | refine Gr.trans ?_ (by assumption) | refine Gr.trans (by assumption) ?_)) ; (first | done | fail))))
          | (with_reducible refine ia_sl ?_ ?_)
          | ((with_reducible apply NestR.ia) ; (focus assumption))
          | ((with_reducible apply NestR.lenW) ; (focus assumption))
          | ((with_reducible apply NestR.rowsW) ; (focus assumption))
          | ((with_reducible apply nest_nth) ; (focus assumption))
          | (with_reducible refine IaW.of ?_)
          | (with_reducible refine SliceW.of ?_)
          | ((with_reducible apply AppC.raw) ; (focus assumption))
          | (with_reducible refine AppC.frz ?_)
          | (with_reducible refine EqnW.of ?_)
          | ((with_reducible apply out_own) ; (focus assumption))
          | (with_reducible refine OutW.of ?_)
          | ((with_reducible apply NOut.own) ; (focus assumption))
          | (with_reducible refine NOut.lit ?_)
          | (with_reducible refine nthR_z ?_)
          | ((with_reducible apply nthR_left) ; (focus (first | omega | (simp only [List.length_append, List.length_cons, List.length_nil, List.length_take, List.length_drop, bs_length]; omega))))
          | (with_reducible refine lenR_sl ?_)
          | (with_reducible refine lenR_nils ?_)
          | (with_reducible refine lenR_rsl ?_)
          | (with_reducible refine rowsR_sl ?_)
          | (with_reducible refine rowsR_nils ?_)
          | (with_reducible refine rowsR_rsl ?_)
          | (with_reducible refine lenR_slx ?_)
          | (with_reducible refine rowsR_slx ?_)
          | (with_reducible refine appendR_slx ?_ ?_ ?_)
          | ((with_reducible apply bytesR_intro) ; (focus (first | rfl | (simp only [bs_take, bs_drop, bs_append]; rfl))))
          | ((with_reducible apply nthR_bs) ; (focus (first | omega | (simp only [List.length_append, List.length_cons, List.length_nil, List.length_take, List.length_drop, bs_length]; omega))))
          | (with_reducible intro _)
          ))
          )
        all_goals (conv => whnf)
        all_goals (try dsimp only)
        refine ⟨(j + 1, pt p (off fr g.1) (fb G j g), σ7), rfl, rfl, ⟨by dsimp only; omega, hb7, by dsimp only; rw [pt_length hin, hpl], fun k u d h1 h2 => ?_, fun k x hk hx => ?_, hz7, hc7, hh7⟩, by dsimp only; omega⟩
        · dsimp only
          have hul := T.ulen h1 h2
          have hub := T.u h1 h2
          have hap := used_gap t5 t6 t4 t2 u (List.mem_of_getElem? h1) g hgm
          exact (hAt k u d h1 h2).other hin (by rw [hul]; unfold off; omega)
        · dsimp only at hk ⊢
          by_cases hkj : k = j
          · subst hkj
            rw [hgg'] at hx; cases hx
            exact At.same hin
          · have hx2 : (gp to fr U)[k]? = some x := by rw [hGd]; exact hx
            have hg2 : (gp to fr U)[j]? = some g := by rw [hGd]; exact hgg'
            have hlt2 := gp_lt t5 t6 t4 t2 (show k < j from by omega) hx2 hg2
            have hxb := T.g (List.mem_of_getElem? hx2)
            have hxl := fb_length (G := G) (j := k) hxb.2.2
            exact (hAg k x (by omega) hx).other hin (.inl (by rw [hxl]; unfold off; omega))
      · have hjl : j = G.length := by omega
        subst hjl
        have him := T.imgEq hpl hAt (fun k g hg => by rw [hGd] at hg ⊢; exact hAg k g (List.getElem?_eq_some_iff.1 hg).1 hg)
        rw [him] at hb hpb
        have hil : (img fr to U D).length = off fr to := by rw [← him]; exact hpl
        generalize img fr to U D = P at *
        repeat' (first
          | ((with_reducible apply Gr.side) ; with_reducible assumption)
          | ((with_reducible apply Gr.side) ; (repeat (first | exact Gr.refl _ _ | assumption | with_reducible refine Gr.trans ?_ (Gr.boxN _ _ _ _ _) | refine Gr.setNew ?_ (by first | exact Nat.le_refl _ | (simp only [newB_length, List.length_set, List.length_append, List.length_singleton]; omega) | omega) _ | refine Gr.addN ?_ _ | refine Gr.newN ?_ _ _ _ | exact Gr.trans (by assumption) (by assumption) | refine Gr.trans ?_ (by assumption) | refine Gr.trans (by assumption) ?_)) ; (first | done | fail))
          | ((with_reducible refine Side.intro ?_) <;> (first
          | with_reducible rfl
          | omega
          | assumption
          | exact Nat.le_of_ble_eq_true rfl
          | (simp only [bs_length, List.length_append, List.length_cons, List.length_nil, List.length_take, List.length_drop, List.length_set, List.length_replicate]; omega)
          | exact .inl (by omega)
          | exact .inr (.inl ⟨rfl, by (simp only [bs_length, List.length_append, List.length_cons, List.length_nil, List.length_take, List.length_drop, List.length_set, List.length_replicate]; omega)⟩)
          | exact Ref.ok_refl _ _
          | (simp only [List.append_nil, List.nil_append, List.map_nil]; first | exact List.nodup_nil | exact nodup_bid1 _ | exact nodup_bid2 (by assumption))
          | ((first | refine fresh_tup ?_ | skip); (repeat (first | exact fresh_sp _ |  exact FreshA.sl _ _ FreshA_bs | exact FreshA.sl _ _ FreshA_is | exact FreshA.nils | exact FreshA.nilp | exact FreshA.int _ _ | exact FreshA.bool _ | exact FreshA.str _ | exact fresh_nil | refine fresh_cons ?_ ?_ | with_reducible refine fresh_aggR ?_ | with_reducible refine fresh_agg ?_ | with_reducible exact fresh_nilA | with_reducible refine fresh_consA ?_ ?_)); done)
          | exact rfl
          | (simp; done)
          ))
          | ((conv => whnf) <;> (first
          | (with_reducible refine and_same ?_)
          | (with_reducible refine and_side ?_ ?_)
          | (with_reducible refine Br.yes rfl ?_)
          | ((with_reducible apply Br.yes) ; (focus omega))
          | ((with_reducible apply Br.no) ; (focus omega))
          | ((with_reducible apply Br.no) ; (focus assumption))
          | ((with_reducible apply Br.yes) ; (focus assumption))
          | ((with_reducible apply Br.yes) ; (focus ((with_reducible refine And.intro ?_ ?_) ; (repeat' (first | with_reducible rfl | exact True.intro | with_reducible refine And.intro ?_ ?_ | omega | assumption)) ; (first | done | fail))))
          | (with_reducible refine Br.mk (fun _ => ?_) (fun _ => ?_))
          | (with_reducible refine Both.mk ?_ ?_)
          | ((with_reducible apply blkAt_intro) ; (focus (first
          | exact rfl
          | ((repeat (first
          | assumption
          | exact get_new
          | exact get_set (by assumption)
          | exact get_set get_new
          | with_reducible apply get_set
          | apply get_set
          | apply get_old
          | (apply get_set_ne; (focus (first | omega | (simp only [newB_length, List.length_set, List.length_append, List.length_singleton, List.length_nil]; omega))))
          )); done)
          )) ; (focus (first | rfl | assumption | omega)) ; (try dsimp only))
          | ((with_reducible apply nthR_sp) ; (focus assumption))
          | ((with_reducible apply nthR_bk) ; (focus assumption))
          | ((with_reducible apply nthR_dat) ; (focus assumption))
          | ((with_reducible apply nthR_bs1) ; (focus assumption))
          | ((with_reducible apply nthR_is1) ; (focus assumption))
          | ((with_reducible apply appendR_lit) ; (focus (first
          | exact rfl
          | ((repeat (first
          | assumption
          | exact get_new
          | exact get_set (by assumption)
          | exact get_set get_new
          | with_reducible apply get_set
          | apply get_set
          | apply get_old
          | (apply get_set_ne; (focus (first | omega | (simp only [newB_length, List.length_set, List.length_append, List.length_singleton, List.length_nil]; omega))))
          )); done)
          )) ; (focus (first | rfl | assumption)) ; (focus rfl) ; (focus rfl) ; (focus rfl) ; (focus (first | exact Nat.zero_le _ | omega | (simp; done) | (simp; omega))) ; (try dsimp only))
          | (with_reducible refine appendR_nil ?_ ?_)
          | ((with_reducible apply lenR_own) ; (focus assumption))
          | ((with_reducible apply lenR_own) ; (focus (apply Own.upTo ; (focus assumption) ; (repeat (first | exact Gr.refl _ _ | assumption | with_reducible refine Gr.trans ?_ (Gr.boxN _ _ _ _ _) | refine Gr.setNew ?_ (by first | exact Nat.le_refl _ | (simp only [newB_length, List.length_set, List.length_append, List.length_singleton]; omega) | omega) _ | refine Gr.addN ?_ _ | refine Gr.newN ?_ _ _ _ | exact Gr.trans (by assumption) (by assumption) | refine Gr.trans ?_ (by assumption) | refine Gr.trans (by assumption) ?_)) ; (first | done | fail))))
          | ((with_reducible apply rowsR_own) ; (focus assumption))
          | ((with_reducible apply rowsR_own) ; (focus (apply Own.upTo ; (focus assumption) ; (repeat (first | exact Gr.refl _ _ | assumption | with_reducible refine Gr.trans ?_ (Gr.boxN _ _ _ _ _) | refine Gr.setNew ?_ (by first | exact Nat.le_refl _ | (simp only [newB_length, List.length_set, List.length_append, List.length_singleton]; omega) | omega) _ | refine Gr.addN ?_ _ | refine Gr.newN ?_ _ _ _ | exact Gr.trans (by assumption) (by assumption) | refine Gr.trans ?_ (by assumption) | refine Gr.trans (by assumption) ?_)) ; (first | done | fail))))
          | ((with_reducible apply ia_own) ; (focus assumption))
          | ((with_reducible apply ia_own) ; (focus (apply Own.upTo ; (focus assumption) ; (repeat (first | exact Gr.refl _ _ | assumption | with_reducible refine Gr.trans ?_ (Gr.boxN _ _ _ _ _) | refine Gr.setNew ?_ (by first | exact Nat.le_refl _ | (simp only [newB_length, List.length_set, List.length_append, List.length_singleton]; omega) | omega) _ | refine Gr.addN ?_ _ | refine Gr.newN ?_ _ _ _ | exact Gr.trans (by assumption) (by assumption) | refine Gr.trans ?_ (by assumption) | refine Gr.trans (by assumption) ?_)) ; (first | done | fail))))
          | (with_reducible refine ia_sl ?_ ?_)
          | ((with_reducible apply NestR.ia) ; (focus assumption))
          | ((with_reducible apply NestR.lenW) ; (focus assumption))
          | ((with_reducible apply NestR.rowsW) ; (focus assumption))
          | ((with_reducible apply nest_nth) ; (focus assumption))
          | (with_reducible refine IaW.of ?_)
          | (with_reducible refine SliceW.of ?_)
          | ((with_reducible apply AppC.raw) ; (focus assumption))
          | (with_reducible refine AppC.frz ?_)
          | (with_reducible refine EqnW.of ?_)
          | ((with_reducible apply out_own) ; (focus assumption))
          | (with_reducible refine OutW.of ?_)
          | ((with_reducible apply NOut.own) ; (focus assumption))
          | (with_reducible refine NOut.lit ?_)
          | (with_reducible refine nthR_z ?_)
          | ((with_reducible apply nthR_left) ; (focus (first | omega | (simp only [List.length_append, List.length_cons, List.length_nil, List.length_take, List.length_drop, bs_length]; omega))))
          | (with_reducible refine lenR_sl ?_)
          | (with_reducible refine lenR_nils ?_)
          | (with_reducible refine lenR_rsl ?_)
          | (with_reducible refine rowsR_sl ?_)
          | (with_reducible refine rowsR_nils ?_)
          | (with_reducible refine rowsR_rsl ?_)
          | (with_reducible refine lenR_slx ?_)
          | (with_reducible refine rowsR_slx ?_)
          | (with_reducible refine appendR_slx ?_ ?_ ?_)
          | ((with_reducible apply bytesR_intro) ; (focus (first | rfl | (simp only [bs_take, bs_drop, bs_append]; rfl))))
          | ((with_reducible apply nthR_bs) ; (focus (first | omega | (simp only [List.length_append, List.length_cons, List.length_nil, List.length_take, List.length_drop, bs_length]; omega))))
          | (with_reducible intro _)
          ))
          )
        all_goals (conv => whnf)
        all_goals (try dsimp only)
        all_goals try rw [List.take_of_length_le (by omega)]
        all_goals first
          | exact ret_same rfl
          | exact Side.intro (fresh_tup (fresh_cons (fresh_bs _) (fresh_cons (FreshA.sl _ _ FreshA_is) (fresh_cons (FreshA.int _ _) fresh_nil))))
          | (refine Side.intro ?_
             cases hq : h.bid with
             | none => simp
             | some a =>
               have : H4.length ≠ a := fun e => hhb (by rw [hq, e])
               simp [this])
          | trace_state
theorem TWrite_call (fr to : Int) (U : List (Int × Int × Int)) (D : List (List UInt8)) (hU : U.length ≤ 4611) (hD : D.length ≤ 4611686) (hd : ∀ d, d ∈ D → d.length ≤ 4611686018) {σ : AH} {x y : AV} (hx : Looks σ x (.sl 3 (Go.Proofs.Ytjbfdhnfdehdeaa.bk U) false)) (hy : Looks σ y (.sl 1 (Go.Proofs.Ytjbfdhnfdehdeaa.dat D) false)) {Q : AV → AH → Prop}
    (h : ∀ σ' b h, Gr σ σ' none → Own σ' 1 b (bs (twR fr to U D)) → Own σ' 1 h (is (twH fr to U D)) → New σ b → New σ h → (∀ id, b.bid = some id → h.bid ≠ some id) → Q (.tup [b, h, .int .i64 (twE fr to U D)]) σ') : CallS Try.prog F.tags_Write [.int .i64 fr, .int .i64 to, x, y] σ Q := by
  refine (TWrite_ok fr to U D hU hD hd).call (.cons (.int _ _ _) (.cons (.int _ _ _) (.cons hx (.cons hy .nil)))) ?_
  rintro _ x σ1 rfl hg hG
  obtain ⟨b, hh, e, rfl, h1, h2, h3, n1, n2, _, a1, _⟩ := hG.three
  obtain rfl := h3.same_inv rfl
  exact h σ1 b hh hg h1.own_inv h2.own_inv n1 n2 a1
end Go.Proofs.Ytjbfdhnfdehdeaa
