import Derived.Test.YtabdieanlhecoaaPref15
import Derived.Test.YtabdieanlhecoaaPslabq
namespace Go.Proofs.Ytabdieanlhecoaa
open Go Go.Proofs.Ytabdieanlhecoaa.V
set_option maxRecDepth 20000
attribute [local irreducible] CallS AOK AOKn ALoop Side Ref.ok
set_option maxHeartbeats 4000000 in
theorem RWrite_ok (c : Int) (l : List Int) (D : List (List UInt8)) (nx pv : Int) (hl : l.length ≤ 4611686018) (hD : D.length ≤ 4611686018) (hd : ∀ d, d ∈ D → d.length ≤ 4611686018) : AOKn Try.prog F.joistref15_Write [.int .i64 c, .sl 1 (is l) false, .sl 1 (dat D) false, .int .i64 nx, .int .i64 pv] fun y => y = .tup [.sl 1 (bs (swR c l D nx pv)) true, .int .i64 (swE c l D nx pv)] := by
  have hln := is_length l
  have hDn := dat_length D
  refine AOKn.by_steps mixed fc_joistref15_Write_ok (by simp [fc_joistref15_Write]) ?_
  repeat' (first
    | ((with_reducible apply Gr.side) ; with_reducible assumption)
    | ((with_reducible apply Gr.side) ; (repeat (first | exact Gr.refl _ _ | assumption | with_reducible refine Gr.trans ?_ (Gr.boxN _ _ _ _ _) | refine Gr.setNew ?_ (by first | exact Nat.le_refl _ | (simp only [newB_length, List.length_set, List.length_append, List.length_singleton]; omega) | omega) _ | refine Gr.addN ?_ _ | refine Gr.newN ?_ _ _ _ | exact Gr.trans (by assumption) (by assumption) | refine Gr.trans ?_ (by assumption) | refine Gr.trans (by assumption) ?_)) ; (first | done | fail))
    | ((with_reducible refine Side.intro ?_) <;> (first
    | with_reducible rfl
    | omega
    | assumption
    | exact Nat.le_of_ble_eq_true rfl
    | (simp only [bs_length, List.length_append, List.length_cons, List.length_nil, List.length_take, List.length_drop, List.length_set, List.length_replicate]; omega)
    | exact .inl (by omega)
    | exact .inr (.inl ⟨rfl, by (simp only [bs_length, List.length_append, List.length_cons, List.length_nil, List.length_take, List.length_drop, List.length_set, List.length_replicate]; omega)⟩)
    | exact Ref.ok_refl _ _
    | (simp only [List.append_nil, List.nil_append, List.map_nil]; first | exact List.nodup_nil | exact nodup_bid1 _ | exact nodup_bid2 (by assumption))
    | ((first | refine fresh_tup ?_ | skip); (repeat (first |  exact FreshA.sl _ _ FreshA_bs | exact FreshA.sl _ _ FreshA_is | exact FreshA.nils | exact FreshA.nilp | exact FreshA.int _ _ | exact FreshA.bool _ | exact FreshA.str _ | exact fresh_nil | refine fresh_cons ?_ ?_ | with_reducible refine fresh_aggR ?_ | with_reducible refine fresh_agg ?_ | with_reducible exact fresh_nilA | with_reducible refine fresh_consA ?_ ?_)); done)
    | exact rfl
    | (simp; done)
    ))
    | ((conv => whnf) <;> (first
    | (with_reducible refine and_same ?_)
    | (with_reducible refine and_side ?_ ?_)
    | (with_reducible refine Br.yes rfl ?_)
    | ((with_reducible apply Br.yes) ; (focus omega))
    | ((with_reducible apply Br.no) ; (focus omega))
    | ((with_reducible apply Br.no) ; (focus assumption))
    | ((with_reducible apply Br.yes) ; (focus assumption))
    | ((with_reducible apply Br.yes) ; (focus ((with_reducible refine And.intro ?_ ?_) ; (repeat' (first | with_reducible rfl | exact True.intro | with_reducible refine And.intro ?_ ?_ | omega | assumption)) ; (first | done | fail))))
    | (with_reducible refine Br.mk (fun _ => ?_) (fun _ => ?_))
    | (with_reducible refine Both.mk ?_ ?_)
    | ((with_reducible apply blkAt_intro) ; (focus (first
    | exact rfl
    | ((repeat (first
    | assumption
    | exact get_new
    | exact get_set (by assumption)
    | exact get_set get_new
    | with_reducible apply get_set
    | apply get_set
    | apply get_old
    | (apply get_set_ne; (focus (first | omega | (simp only [newB_length, List.length_set, List.length_append, List.length_singleton, List.length_nil]; omega))))
    )); done)
    )) ; (focus (first | rfl | assumption | omega)) ; (try dsimp only))
    | ((with_reducible apply nthR_dat) ; (focus assumption))
    | ((with_reducible apply nthR_bs1) ; (focus assumption))
    | ((with_reducible apply nthR_is1) ; (focus assumption))
    | ((with_reducible apply appendR_lit) ; (focus (first
    | exact rfl
    | ((repeat (first
    | assumption
    | exact get_new
    | exact get_set (by assumption)
    | exact get_set get_new
    | with_reducible apply get_set
    | apply get_set
    | apply get_old
    | (apply get_set_ne; (focus (first | omega | (simp only [newB_length, List.length_set, List.length_append, List.length_singleton, List.length_nil]; omega))))
    )); done)
    )) ; (focus (first | rfl | assumption)) ; (focus rfl) ; (focus rfl) ; (focus rfl) ; (focus (first | exact Nat.zero_le _ | omega | (simp; done) | (simp; omega))) ; (try dsimp only))
    | (with_reducible refine appendR_nil ?_ ?_)
    | ((with_reducible apply lenR_own) ; (focus assumption))
    | ((with_reducible apply lenR_own) ; (focus (apply Own.upTo ; (focus assumption) ; (repeat (first | exact Gr.refl _ _ | assumption | with_reducible refine Gr.trans ?_ (Gr.boxN _ _ _ _ _) | refine Gr.setNew ?_ (by first | exact Nat.le_refl _ | (simp only [newB_length, List.length_set, List.length_append, List.length_singleton]; omega) | omega) _ | refine Gr.addN ?_ _ | refine Gr.newN ?_ _ _ _ | exact Gr.trans (by assumption) (by assumption) | refine Gr.trans ?_ (by assumption) | refine Gr.trans (by assumption) ?_)) ; (first | done | fail))))
    | ((with_reducible apply rowsR_own) ; (focus assumption))
    | ((with_reducible apply rowsR_own) ; (focus (apply Own.upTo ; (focus assumption) ; (repeat (first | exact Gr.refl _ _ | assumption | with_reducible refine Gr.trans ?_ (Gr.boxN _ _ _ _ _) | refine Gr.setNew ?_ (by first | exact Nat.le_refl _ | (simp only [newB_length, List.length_set, List.length_append, List.length_singleton]; omega) | omega) _ | refine Gr.addN ?_ _ | refine Gr.newN ?_ _ _ _ | exact Gr.trans (by assumption) (by assumption) | refine Gr.trans ?_ (by assumption) | refine Gr.trans (by assumption) ?_)) ; (first | done | fail))))
    | ((with_reducible apply ia_own) ; (focus assumption))
    | ((with_reducible apply ia_own) ; (focus (apply Own.upTo ; (focus assumption) ; (repeat (first | exact Gr.refl _ _ | assumption | with_reducible refine Gr.trans ?_ (Gr.boxN _ _ _ _ _) | refine Gr.setNew ?_ (by first | exact Nat.le_refl _ | (simp only [newB_length, List.length_set, List.length_append, List.length_singleton]; omega) | omega) _ | refine Gr.addN ?_ _ | refine Gr.newN ?_ _ _ _ | exact Gr.trans (by assumption) (by assumption) | refine Gr.trans ?_ (by assumption) | refine Gr.trans (by assumption) ?_)) ; (first | done | fail))))
    | (with_reducible refine ia_sl ?_ ?_)
    | (with_reducible refine IaW.of ?_)
    | (with_reducible refine SliceW.of ?_)
    | ((with_reducible apply AppC.raw) ; (focus assumption))
    | (with_reducible refine AppC.frz ?_)
    | (with_reducible refine EqnW.of ?_)
    | (with_reducible refine CopyW.of ?_)
    | ((with_reducible apply out_own) ; (focus assumption))
    | (with_reducible refine OutW.of ?_)
    | ((with_reducible apply NOut.own) ; (focus assumption))
    | (with_reducible refine NOut.lit ?_)
    | (with_reducible refine nthR_z ?_)
    | ((with_reducible apply nthR_left) ; (focus (first | omega | (simp only [List.length_append, List.length_cons, List.length_nil, List.length_take, List.length_drop, bs_length]; omega))))
    | (with_reducible refine lenR_sl ?_)
    | (with_reducible refine lenR_nils ?_)
    | (with_reducible refine lenR_rsl ?_)
    | (with_reducible refine rowsR_sl ?_)
    | (with_reducible refine rowsR_nils ?_)
    | (with_reducible refine rowsR_rsl ?_)
    | (with_reducible refine lenR_slx ?_)
    | (with_reducible refine rowsR_slx ?_)
    | (with_reducible refine appendR_slx ?_ ?_ ?_)
    | ((with_reducible apply bytesR_intro) ; (focus (first | rfl | (simp only [bs_take, bs_drop, bs_append]; rfl))))
    | ((with_reducible apply nthR_bs) ; (focus (first | omega | (simp only [List.length_append, List.length_cons, List.length_nil, List.length_take, List.length_drop, bs_length]; omega))))
    | (with_reducible intro _)
    ))
    )
  all_goals (conv => whnf)
  all_goals (try dsimp only)
  refine RBits_call c l hl (Looks.is _ _ _) fun H1 hg1 => ?_
  repeat' (first
    | ((with_reducible apply Gr.side) ; with_reducible assumption)
    | ((with_reducible apply Gr.side) ; (repeat (first | exact Gr.refl _ _ | assumption | with_reducible refine Gr.trans ?_ (Gr.boxN _ _ _ _ _) | refine Gr.setNew ?_ (by first | exact Nat.le_refl _ | (simp only [newB_length, List.length_set, List.length_append, List.length_singleton]; omega) | omega) _ | refine Gr.addN ?_ _ | refine Gr.newN ?_ _ _ _ | exact Gr.trans (by assumption) (by assumption) | refine Gr.trans ?_ (by assumption) | refine Gr.trans (by assumption) ?_)) ; (first | done | fail))
    | ((with_reducible refine Side.intro ?_) <;> (first
    | with_reducible rfl
    | omega
    | assumption
    | exact Nat.le_of_ble_eq_true rfl
    | (simp only [bs_length, List.length_append, List.length_cons, List.length_nil, List.length_take, List.length_drop, List.length_set, List.length_replicate]; omega)
    | exact .inl (by omega)
    | exact .inr (.inl ⟨rfl, by (simp only [bs_length, List.length_append, List.length_cons, List.length_nil, List.length_take, List.length_drop, List.length_set, List.length_replicate]; omega)⟩)
    | exact Ref.ok_refl _ _
    | (simp only [List.append_nil, List.nil_append, List.map_nil]; first | exact List.nodup_nil | exact nodup_bid1 _ | exact nodup_bid2 (by assumption))
    | ((first | refine fresh_tup ?_ | skip); (repeat (first |  exact FreshA.sl _ _ FreshA_bs | exact FreshA.sl _ _ FreshA_is | exact FreshA.nils | exact FreshA.nilp | exact FreshA.int _ _ | exact FreshA.bool _ | exact FreshA.str _ | exact fresh_nil | refine fresh_cons ?_ ?_ | with_reducible refine fresh_aggR ?_ | with_reducible refine fresh_agg ?_ | with_reducible exact fresh_nilA | with_reducible refine fresh_consA ?_ ?_)); done)
    | exact rfl
    | (simp; done)
    ))
    | ((conv => whnf) <;> (first
    | (with_reducible refine and_same ?_)
    | (with_reducible refine and_side ?_ ?_)
    | (with_reducible refine Br.yes rfl ?_)
    | ((with_reducible apply Br.yes) ; (focus omega))
    | ((with_reducible apply Br.no) ; (focus omega))
    | ((with_reducible apply Br.no) ; (focus assumption))
    | ((with_reducible apply Br.yes) ; (focus assumption))
    | ((with_reducible apply Br.yes) ; (focus ((with_reducible refine And.intro ?_ ?_) ; (repeat' (first | with_reducible rfl | exact True.intro | with_reducible refine And.intro ?_ ?_ | omega | assumption)) ; (first | done | fail))))
    | (with_reducible refine Br.mk (fun _ => ?_) (fun _ => ?_))
    | (with_reducible refine Both.mk ?_ ?_)
    | ((with_reducible apply blkAt_intro) ; (focus (first
    | exact rfl
    | ((repeat (first
    | assumption
    | exact get_new
    | exact get_set (by assumption)
    | exact get_set get_new
    | with_reducible apply get_set
    | apply get_set
    | apply get_old
    | (apply get_set_ne; (focus (first | omega | (simp only [newB_length, List.length_set, List.length_append, List.length_singleton, List.length_nil]; omega))))
    )); done)
    )) ; (focus (first | rfl | assumption | omega)) ; (try dsimp only))
    | ((with_reducible apply nthR_dat) ; (focus assumption))
    | ((with_reducible apply nthR_bs1) ; (focus assumption))
    | ((with_reducible apply nthR_is1) ; (focus assumption))
    | ((with_reducible apply appendR_lit) ; (focus (first
    | exact rfl
    | ((repeat (first
    | assumption
    | exact get_new
    | exact get_set (by assumption)
    | exact get_set get_new
    | with_reducible apply get_set
    | apply get_set
    | apply get_old
    | (apply get_set_ne; (focus (first | omega | (simp only [newB_length, List.length_set, List.length_append, List.length_singleton, List.length_nil]; omega))))
    )); done)
    )) ; (focus (first | rfl | assumption)) ; (focus rfl) ; (focus rfl) ; (focus rfl) ; (focus (first | exact Nat.zero_le _ | omega | (simp; done) | (simp; omega))) ; (try dsimp only))
    | (with_reducible refine appendR_nil ?_ ?_)
    | ((with_reducible apply lenR_own) ; (focus assumption))
    | ((with_reducible apply lenR_own) ; (focus (apply Own.upTo ; (focus assumption) ; (repeat (first | exact Gr.refl _ _ | assumption | with_reducible refine Gr.trans ?_ (Gr.boxN _ _ _ _ _) | refine Gr.setNew ?_ (by first | exact Nat.le_refl _ | (simp only [newB_length, List.length_set, List.length_append, List.length_singleton]; omega) | omega) _ | refine Gr.addN ?_ _ | refine Gr.newN ?_ _ _ _ | exact Gr.trans (by assumption) (by assumption) | refine Gr.trans ?_ (by assumption) | refine Gr.trans (by assumption) ?_)) ; (first | done | fail))))
    | ((with_reducible apply rowsR_own) ; (focus assumption))
    | ((with_reducible apply rowsR_own) ; (focus (apply Own.upTo ; (focus assumption) ; (repeat (first | exact Gr.refl _ _ | assumption | with_reducible refine Gr.trans ?_ (Gr.boxN _ _ _ _ _) | refine Gr.setNew ?_ (by first | exact Nat.le_refl _ | (simp only [newB_length, List.length_set, List.length_append, List.length_singleton]; omega) | omega) _ | refine Gr.addN ?_ _ | refine Gr.newN ?_ _ _ _ | exact Gr.trans (by assumption) (by assumption) | refine Gr.trans ?_ (by assumption) | refine Gr.trans (by assumption) ?_)) ; (first | done | fail))))
    | ((with_reducible apply ia_own) ; (focus assumption))
    | ((with_reducible apply ia_own) ; (focus (apply Own.upTo ; (focus assumption) ; (repeat (first | exact Gr.refl _ _ | assumption | with_reducible refine Gr.trans ?_ (Gr.boxN _ _ _ _ _) | refine Gr.setNew ?_ (by first | exact Nat.le_refl _ | (simp only [newB_length, List.length_set, List.length_append, List.length_singleton]; omega) | omega) _ | refine Gr.addN ?_ _ | refine Gr.newN ?_ _ _ _ | exact Gr.trans (by assumption) (by assumption) | refine Gr.trans ?_ (by assumption) | refine Gr.trans (by assumption) ?_)) ; (first | done | fail))))
    | (with_reducible refine ia_sl ?_ ?_)
    | (with_reducible refine IaW.of ?_)
    | (with_reducible refine SliceW.of ?_)
    | ((with_reducible apply AppC.raw) ; (focus assumption))
    | (with_reducible refine AppC.frz ?_)
    | (with_reducible refine EqnW.of ?_)
    | (with_reducible refine CopyW.of ?_)
    | ((with_reducible apply out_own) ; (focus assumption))
    | (with_reducible refine OutW.of ?_)
    | ((with_reducible apply NOut.own) ; (focus assumption))
    | (with_reducible refine NOut.lit ?_)
    | (with_reducible refine nthR_z ?_)
    | ((with_reducible apply nthR_left) ; (focus (first | omega | (simp only [List.length_append, List.length_cons, List.length_nil, List.length_take, List.length_drop, bs_length]; omega))))
    | (with_reducible refine lenR_sl ?_)
    | (with_reducible refine lenR_nils ?_)
    | (with_reducible refine lenR_rsl ?_)
    | (with_reducible refine rowsR_sl ?_)
    | (with_reducible refine rowsR_nils ?_)
    | (with_reducible refine rowsR_rsl ?_)
    | (with_reducible refine lenR_slx ?_)
    | (with_reducible refine rowsR_slx ?_)
    | (with_reducible refine appendR_slx ?_ ?_ ?_)
    | ((with_reducible apply bytesR_intro) ; (focus (first | rfl | (simp only [bs_take, bs_drop, bs_append]; rfl))))
    | ((with_reducible apply nthR_bs) ; (focus (first | omega | (simp only [List.length_append, List.length_cons, List.length_nil, List.length_take, List.length_drop, bs_length]; omega))))
    | (with_reducible intro _)
    ))
    )
  all_goals (conv => whnf)
  all_goals (try dsimp only)
  refine RWords_call c fun H2 hg2 => ?_
  cases hB : swB c l D nx pv
  · have e : swOk c l D nx pv = false := by rw [swOk, hB]; rfl
    rw [swR, swE, e]
    cases q1 : btOk c l
    · rw [show btEr c l = 1 from by rw [btEr, q1]; rfl]
      repeat' (first
        | ((with_reducible apply Gr.side) ; with_reducible assumption)
        | ((with_reducible apply Gr.side) ; (repeat (first | exact Gr.refl _ _ | assumption | with_reducible refine Gr.trans ?_ (Gr.boxN _ _ _ _ _) | refine Gr.setNew ?_ (by first | exact Nat.le_refl _ | (simp only [newB_length, List.length_set, List.length_append, List.length_singleton]; omega) | omega) _ | refine Gr.addN ?_ _ | refine Gr.newN ?_ _ _ _ | exact Gr.trans (by assumption) (by assumption) | refine Gr.trans ?_ (by assumption) | refine Gr.trans (by assumption) ?_)) ; (first | done | fail))
        | ((with_reducible refine Side.intro ?_) <;> (first
        | with_reducible rfl
        | omega
        | assumption
        | exact Nat.le_of_ble_eq_true rfl
        | (simp only [bs_length, List.length_append, List.length_cons, List.length_nil, List.length_take, List.length_drop, List.length_set, List.length_replicate]; omega)
        | exact .inl (by omega)
        | exact .inr (.inl ⟨rfl, by (simp only [bs_length, List.length_append, List.length_cons, List.length_nil, List.length_take, List.length_drop, List.length_set, List.length_replicate]; omega)⟩)
        | exact Ref.ok_refl _ _
        | (simp only [List.append_nil, List.nil_append, List.map_nil]; first | exact List.nodup_nil | exact nodup_bid1 _ | exact nodup_bid2 (by assumption))
        | ((first | refine fresh_tup ?_ | skip); (repeat (first |  exact FreshA.sl _ _ FreshA_bs | exact FreshA.sl _ _ FreshA_is | exact FreshA.nils | exact FreshA.nilp | exact FreshA.int _ _ | exact FreshA.bool _ | exact FreshA.str _ | exact fresh_nil | refine fresh_cons ?_ ?_ | with_reducible refine fresh_aggR ?_ | with_reducible refine fresh_agg ?_ | with_reducible exact fresh_nilA | with_reducible refine fresh_consA ?_ ?_)); done)
        | exact rfl
        | (simp; done)
        ))
        | ((conv => whnf) <;> (first
        | (with_reducible refine and_same ?_)
        | (with_reducible refine and_side ?_ ?_)
        | (with_reducible refine Br.yes rfl ?_)
        | ((with_reducible apply Br.yes) ; (focus omega))
        | ((with_reducible apply Br.no) ; (focus omega))
        | ((with_reducible apply Br.no) ; (focus assumption))
        | ((with_reducible apply Br.yes) ; (focus assumption))
        | ((with_reducible apply Br.yes) ; (focus ((with_reducible refine And.intro ?_ ?_) ; (repeat' (first | with_reducible rfl | exact True.intro | with_reducible refine And.intro ?_ ?_ | omega | assumption)) ; (first | done | fail))))
        | (with_reducible refine Br.mk (fun _ => ?_) (fun _ => ?_))
        | (with_reducible refine Both.mk ?_ ?_)
        | ((with_reducible apply blkAt_intro) ; (focus (first
        | exact rfl
        | ((repeat (first
        | assumption
        | exact get_new
        | exact get_set (by assumption)
        | exact get_set get_new
        | with_reducible apply get_set
        | apply get_set
        | apply get_old
        | (apply get_set_ne; (focus (first | omega | (simp only [newB_length, List.length_set, List.length_append, List.length_singleton, List.length_nil]; omega))))
        )); done)
        )) ; (focus (first | rfl | assumption | omega)) ; (try dsimp only))
        | ((with_reducible apply nthR_dat) ; (focus assumption))
        | ((with_reducible apply nthR_bs1) ; (focus assumption))
        | ((with_reducible apply nthR_is1) ; (focus assumption))
        | ((with_reducible apply appendR_lit) ; (focus (first
        | exact rfl
        | ((repeat (first
        | assumption
        | exact get_new
        | exact get_set (by assumption)
        | exact get_set get_new
        | with_reducible apply get_set
        | apply get_set
        | apply get_old
        | (apply get_set_ne; (focus (first | omega | (simp only [newB_length, List.length_set, List.length_append, List.length_singleton, List.length_nil]; omega))))
        )); done)
        )) ; (focus (first | rfl | assumption)) ; (focus rfl) ; (focus rfl) ; (focus rfl) ; (focus (first | exact Nat.zero_le _ | omega | (simp; done) | (simp; omega))) ; (try dsimp only))
        | (with_reducible refine appendR_nil ?_ ?_)
        | ((with_reducible apply lenR_own) ; (focus assumption))
        | ((with_reducible apply lenR_own) ; (focus (apply Own.upTo ; (focus assumption) ; (repeat (first | exact Gr.refl _ _ | assumption | with_reducible refine Gr.trans ?_ (Gr.boxN _ _ _ _ _) | refine Gr.setNew ?_ (by first | exact Nat.le_refl _ | (simp only [newB_length, List.length_set, List.length_append, List.length_singleton]; omega) | omega) _ | refine Gr.addN ?_ _ | refine Gr.newN ?_ _ _ _ | exact Gr.trans (by assumption) (by assumption) | refine Gr.trans ?_ (by assumption) | refine Gr.trans (by assumption) ?_)) ; (first | done | fail))))
        | ((with_reducible apply rowsR_own) ; (focus assumption))
        | ((with_reducible apply rowsR_own) ; (focus (apply Own.upTo ; (focus assumption) ; (repeat (first | exact Gr.refl _ _ | assumption | with_reducible refine Gr.trans ?_ (Gr.boxN _ _ _ _ _) | refine Gr.setNew ?_ (by first | exact Nat.le_refl _ | (simp only [newB_length, List.length_set, List.length_append, List.length_singleton]; omega) | omega) _ | refine Gr.addN ?_ _ | refine Gr.newN ?_ _ _ _ | exact Gr.trans (by assumption) (by assumption) | refine Gr.trans ?_ (by assumption) | refine Gr.trans (by assumption) ?_)) ; (first | done | fail))))
        | ((with_reducible apply ia_own) ; (focus assumption))
        | ((with_reducible apply ia_own) ; (focus (apply Own.upTo ; (focus assumption) ; (repeat (first | exact Gr.refl _ _ | assumption | with_reducible refine Gr.trans ?_ (Gr.boxN _ _ _ _ _) | refine Gr.setNew ?_ (by first | exact Nat.le_refl _ | (simp only [newB_length, List.length_set, List.length_append, List.length_singleton]; omega) | omega) _ | refine Gr.addN ?_ _ | refine Gr.newN ?_ _ _ _ | exact Gr.trans (by assumption) (by assumption) | refine Gr.trans ?_ (by assumption) | refine Gr.trans (by assumption) ?_)) ; (first | done | fail))))
        | (with_reducible refine ia_sl ?_ ?_)
        | (with_reducible refine IaW.of ?_)
        | (with_reducible refine SliceW.of ?_)
        | ((with_reducible apply AppC.raw) ; (focus assumption))
        | (with_reducible refine AppC.frz ?_)
        | (with_reducible refine EqnW.of ?_)
        | (with_reducible refine CopyW.of ?_)
        | ((with_reducible apply out_own) ; (focus assumption))
        | (with_reducible refine OutW.of ?_)
        | ((with_reducible apply NOut.own) ; (focus assumption))
        | (with_reducible refine NOut.lit ?_)
        | (with_reducible refine nthR_z ?_)
        | ((with_reducible apply nthR_left) ; (focus (first | omega | (simp only [List.length_append, List.length_cons, List.length_nil, List.length_take, List.length_drop, bs_length]; omega))))
        | (with_reducible refine lenR_sl ?_)
        | (with_reducible refine lenR_nils ?_)
        | (with_reducible refine lenR_rsl ?_)
        | (with_reducible refine rowsR_sl ?_)
        | (with_reducible refine rowsR_nils ?_)
        | (with_reducible refine rowsR_rsl ?_)
        | (with_reducible refine lenR_slx ?_)
        | (with_reducible refine rowsR_slx ?_)
        | (with_reducible refine appendR_slx ?_ ?_ ?_)
        | ((with_reducible apply bytesR_intro) ; (focus (first | rfl | (simp only [bs_take, bs_drop, bs_append]; rfl))))
        | ((with_reducible apply nthR_bs) ; (focus (first | omega | (simp only [List.length_append, List.length_cons, List.length_nil, List.length_take, List.length_drop, bs_length]; omega))))
        | (with_reducible intro _)
        ))
        )
      all_goals (conv => whnf)
      all_goals (try dsimp only)
      exact ret_nilt rfl
    · rw [show btEr c l = 0 from by rw [btEr, q1]; rfl]
      have hno : ¬ (0 < l.length ∧ l.length = D.length ∧ (0 ≤ nx ∧ nx ≤ 64) ∧ 0 ≤ pv ∧ pv ≤ 64) := fun h => by
        rw [swB_iff.2 ⟨q1, h.1, h.2.1, nbB_iff.2 h.2.2.1, nbB_iff.2 h.2.2.2⟩] at hB
        cases hB
      repeat' (first
        | ((with_reducible apply Gr.side) ; with_reducible assumption)
        | ((with_reducible apply Gr.side) ; (repeat (first | exact Gr.refl _ _ | assumption | with_reducible refine Gr.trans ?_ (Gr.boxN _ _ _ _ _) | refine Gr.setNew ?_ (by first | exact Nat.le_refl _ | (simp only [newB_length, List.length_set, List.length_append, List.length_singleton]; omega) | omega) _ | refine Gr.addN ?_ _ | refine Gr.newN ?_ _ _ _ | exact Gr.trans (by assumption) (by assumption) | refine Gr.trans ?_ (by assumption) | refine Gr.trans (by assumption) ?_)) ; (first | done | fail))
        | ((with_reducible refine Side.intro ?_) <;> (first
        | with_reducible rfl
        | omega
        | assumption
        | exact Nat.le_of_ble_eq_true rfl
        | (simp only [bs_length, List.length_append, List.length_cons, List.length_nil, List.length_take, List.length_drop, List.length_set, List.length_replicate]; omega)
        | exact .inl (by omega)
        | exact .inr (.inl ⟨rfl, by (simp only [bs_length, List.length_append, List.length_cons, List.length_nil, List.length_take, List.length_drop, List.length_set, List.length_replicate]; omega)⟩)
        | exact Ref.ok_refl _ _
        | (simp only [List.append_nil, List.nil_append, List.map_nil]; first | exact List.nodup_nil | exact nodup_bid1 _ | exact nodup_bid2 (by assumption))
        | ((first | refine fresh_tup ?_ | skip); (repeat (first |  exact FreshA.sl _ _ FreshA_bs | exact FreshA.sl _ _ FreshA_is | exact FreshA.nils | exact FreshA.nilp | exact FreshA.int _ _ | exact FreshA.bool _ | exact FreshA.str _ | exact fresh_nil | refine fresh_cons ?_ ?_ | with_reducible refine fresh_aggR ?_ | with_reducible refine fresh_agg ?_ | with_reducible exact fresh_nilA | with_reducible refine fresh_consA ?_ ?_)); done)
        | exact rfl
        | (simp; done)
        ))
        | ((conv => whnf) <;> (first
        | (with_reducible refine and_same ?_)
        | (with_reducible refine and_side ?_ ?_)
        | (with_reducible refine Br.yes rfl ?_)
        | ((with_reducible apply Br.yes) ; (focus omega))
        | ((with_reducible apply Br.no) ; (focus omega))
        | ((with_reducible apply Br.no) ; (focus assumption))
        | ((with_reducible apply Br.yes) ; (focus assumption))
        | ((with_reducible apply Br.yes) ; (focus ((with_reducible refine And.intro ?_ ?_) ; (repeat' (first | with_reducible rfl | exact True.intro | with_reducible refine And.intro ?_ ?_ | omega | assumption)) ; (first | done | fail))))
        | (with_reducible refine Br.mk (fun _ => ?_) (fun _ => ?_))
        | (with_reducible refine Both.mk ?_ ?_)
        | ((with_reducible apply blkAt_intro) ; (focus (first
        | exact rfl
        | ((repeat (first
        | assumption
        | exact get_new
        | exact get_set (by assumption)
        | exact get_set get_new
        | with_reducible apply get_set
        | apply get_set
        | apply get_old
        | (apply get_set_ne; (focus (first | omega | (simp only [newB_length, List.length_set, List.length_append, List.length_singleton, List.length_nil]; omega))))
        )); done)
        )) ; (focus (first | rfl | assumption | omega)) ; (try dsimp only))
        | ((with_reducible apply nthR_dat) ; (focus assumption))
        | ((with_reducible apply nthR_bs1) ; (focus assumption))
        | ((with_reducible apply nthR_is1) ; (focus assumption))
        | ((with_reducible apply appendR_lit) ; (focus (first
        | exact rfl
        | ((repeat (first
        | assumption
        | exact get_new
        | exact get_set (by assumption)
        | exact get_set get_new
        | with_reducible apply get_set
        | apply get_set
        | apply get_old
        | (apply get_set_ne; (focus (first | omega | (simp only [newB_length, List.length_set, List.length_append, List.length_singleton, List.length_nil]; omega))))
        )); done)
        )) ; (focus (first | rfl | assumption)) ; (focus rfl) ; (focus rfl) ; (focus rfl) ; (focus (first | exact Nat.zero_le _ | omega | (simp; done) | (simp; omega))) ; (try dsimp only))
        | (with_reducible refine appendR_nil ?_ ?_)
        | ((with_reducible apply lenR_own) ; (focus assumption))
        | ((with_reducible apply lenR_own) ; (focus (apply Own.upTo ; (focus assumption) ; (repeat (first | exact Gr.refl _ _ | assumption | with_reducible refine Gr.trans ?_ (Gr.boxN _ _ _ _ _) | refine Gr.setNew ?_ (by first | exact Nat.le_refl _ | (simp only [newB_length, List.length_set, List.length_append, List.length_singleton]; omega) | omega) _ | refine Gr.addN ?_ _ | refine Gr.newN ?_ _ _ _ | exact Gr.trans (by assumption) (by assumption) | refine Gr.trans ?_ (by assumption) | refine Gr.trans (by assumption) ?_)) ; (first | done | fail))))
        | ((with_reducible apply rowsR_own) ; (focus assumption))
        | ((with_reducible apply rowsR_own) ; (focus (apply Own.upTo ; (focus assumption) ; (repeat (first | exact Gr.refl _ _ | assumption | with_reducible refine Gr.trans ?_ (Gr.boxN _ _ _ _ _) | refine Gr.setNew ?_ (by first | exact Nat.le_refl _ | (simp only [newB_length, List.length_set, List.length_append, List.length_singleton]; omega) | omega) _ | refine Gr.addN ?_ _ | refine Gr.newN ?_ _ _ _ | exact Gr.trans (by assumption) (by assumption) | refine Gr.trans ?_ (by assumption) | refine Gr.trans (by assumption) ?_)) ; (first | done | fail))))
        | ((with_reducible apply ia_own) ; (focus assumption))
        | ((with_reducible apply ia_own) ; (focus (apply Own.upTo ; (focus assumption) ; (repeat (first | exact Gr.refl _ _ | assumption | with_reducible refine Gr.trans ?_ (Gr.boxN _ _ _ _ _) | refine Gr.setNew ?_ (by first | exact Nat.le_refl _ | (simp only [newB_length, List.length_set, List.length_append, List.length_singleton]; omega) | omega) _ | refine Gr.addN ?_ _ | refine Gr.newN ?_ _ _ _ | exact Gr.trans (by assumption) (by assumption) | refine Gr.trans ?_ (by assumption) | refine Gr.trans (by assumption) ?_)) ; (first | done | fail))))
        | (with_reducible refine ia_sl ?_ ?_)
        | (with_reducible refine IaW.of ?_)
        | (with_reducible refine SliceW.of ?_)
        | ((with_reducible apply AppC.raw) ; (focus assumption))
        | (with_reducible refine AppC.frz ?_)
        | (with_reducible refine EqnW.of ?_)
        | (with_reducible refine CopyW.of ?_)
        | ((with_reducible apply out_own) ; (focus assumption))
        | (with_reducible refine OutW.of ?_)
        | ((with_reducible apply NOut.own) ; (focus assumption))
        | (with_reducible refine NOut.lit ?_)
        | (with_reducible refine nthR_z ?_)
        | ((with_reducible apply nthR_left) ; (focus (first | omega | (simp only [List.length_append, List.length_cons, List.length_nil, List.length_take, List.length_drop, bs_length]; omega))))
        | (with_reducible refine lenR_sl ?_)
        | (with_reducible refine lenR_nils ?_)
        | (with_reducible refine lenR_rsl ?_)
        | (with_reducible refine rowsR_sl ?_)
        | (with_reducible refine rowsR_nils ?_)
        | (with_reducible refine rowsR_rsl ?_)
        | (with_reducible refine lenR_slx ?_)
        | (with_reducible refine rowsR_slx ?_)
        | (with_reducible refine appendR_slx ?_ ?_ ?_)
        | ((with_reducible apply bytesR_intro) ; (focus (first | rfl | (simp only [bs_take, bs_drop, bs_append]; rfl))))
        | ((with_reducible apply nthR_bs) ; (focus (first | omega | (simp only [List.length_append, List.length_cons, List.length_nil, List.length_take, List.length_drop, bs_length]; omega))))
        | (with_reducible intro _)
        ))
        )
      all_goals (conv => whnf)
      all_goals (try dsimp only)
      all_goals first
        | omega
        | exact ret_nilt rfl
  · obtain ⟨q1, q2, q3, q4, q5⟩ := swB_iff.1 hB
    have hbb := bt_bd q1
    have hmay := sh_may q1 q4 q5
    have hR : ofR (sh c l nx pv) = cat (sh c l nx pv) := by rw [ofR, hmay, if_pos rfl]
    have hsl := sh_len c l nx pv
    have hsb := bs_length (cat (sh c l nx pv))
    have n1 := nbB_iff.1 q4
    have n2 := nbB_iff.1 q5
    rw [show btEr c l = 0 from by rw [btEr, q1]; rfl, show btV c l = (sumv l : Nat) from by rw [btV, q1]; rfl]
    repeat' (first
      | ((with_reducible apply Gr.side) ; with_reducible assumption)
      | ((with_reducible apply Gr.side) ; (repeat (first | exact Gr.refl _ _ | assumption | with_reducible refine Gr.trans ?_ (Gr.boxN _ _ _ _ _) | refine Gr.setNew ?_ (by first | exact Nat.le_refl _ | (simp only [newB_length, List.length_set, List.length_append, List.length_singleton]; omega) | omega) _ | refine Gr.addN ?_ _ | refine Gr.newN ?_ _ _ _ | exact Gr.trans (by assumption) (by assumption) | refine Gr.trans ?_ (by assumption) | refine Gr.trans (by assumption) ?_)) ; (first | done | fail))
      | ((with_reducible refine Side.intro ?_) <;> (first
      | with_reducible rfl
      | omega
      | assumption
      | exact Nat.le_of_ble_eq_true rfl
      | (simp only [bs_length, List.length_append, List.length_cons, List.length_nil, List.length_take, List.length_drop, List.length_set, List.length_replicate]; omega)
      | exact .inl (by omega)
      | exact .inr (.inl ⟨rfl, by (simp only [bs_length, List.length_append, List.length_cons, List.length_nil, List.length_take, List.length_drop, List.length_set, List.length_replicate]; omega)⟩)
      | exact Ref.ok_refl _ _
      | (simp only [List.append_nil, List.nil_append, List.map_nil]; first | exact List.nodup_nil | exact nodup_bid1 _ | exact nodup_bid2 (by assumption))
      | ((first | refine fresh_tup ?_ | skip); (repeat (first |  exact FreshA.sl _ _ FreshA_bs | exact FreshA.sl _ _ FreshA_is | exact FreshA.nils | exact FreshA.nilp | exact FreshA.int _ _ | exact FreshA.bool _ | exact FreshA.str _ | exact fresh_nil | refine fresh_cons ?_ ?_ | with_reducible refine fresh_aggR ?_ | with_reducible refine fresh_agg ?_ | with_reducible exact fresh_nilA | with_reducible refine fresh_consA ?_ ?_)); done)
      | exact rfl
      | (simp; done)
      ))
      | ((conv => whnf) <;> (first
      | (with_reducible refine and_same ?_)
      | (with_reducible refine and_side ?_ ?_)
      | (with_reducible refine Br.yes rfl ?_)
      | ((with_reducible apply Br.yes) ; (focus omega))
      | ((with_reducible apply Br.no) ; (focus omega))
      | ((with_reducible apply Br.no) ; (focus assumption))
      | ((with_reducible apply Br.yes) ; (focus assumption))
      | ((with_reducible apply Br.yes) ; (focus ((with_reducible refine And.intro ?_ ?_) ; (repeat' (first | with_reducible rfl | exact True.intro | with_reducible refine And.intro ?_ ?_ | omega | assumption)) ; (first | done | fail))))
      | (with_reducible refine Br.mk (fun _ => ?_) (fun _ => ?_))
      | (with_reducible refine Both.mk ?_ ?_)
      | ((with_reducible apply blkAt_intro) ; (focus (first
      | exact rfl
      | ((repeat (first
      | assumption
      | exact get_new
      | exact get_set (by assumption)
      | exact get_set get_new
      | with_reducible apply get_set
      | apply get_set
      | apply get_old
      | (apply get_set_ne; (focus (first | omega | (simp only [newB_length, List.length_set, List.length_append, List.length_singleton, List.length_nil]; omega))))
      )); done)
      )) ; (focus (first | rfl | assumption | omega)) ; (try dsimp only))
      | ((with_reducible apply nthR_dat) ; (focus assumption))
      | ((with_reducible apply nthR_bs1) ; (focus assumption))
      | ((with_reducible apply nthR_is1) ; (focus assumption))
      | ((with_reducible apply appendR_lit) ; (focus (first
      | exact rfl
      | ((repeat (first
      | assumption
      | exact get_new
      | exact get_set (by assumption)
      | exact get_set get_new
      | with_reducible apply get_set
      | apply get_set
      | apply get_old
      | (apply get_set_ne; (focus (first | omega | (simp only [newB_length, List.length_set, List.length_append, List.length_singleton, List.length_nil]; omega))))
      )); done)
      )) ; (focus (first | rfl | assumption)) ; (focus rfl) ; (focus rfl) ; (focus rfl) ; (focus (first | exact Nat.zero_le _ | omega | (simp; done) | (simp; omega))) ; (try dsimp only))
      | (with_reducible refine appendR_nil ?_ ?_)
      | ((with_reducible apply lenR_own) ; (focus assumption))
      | ((with_reducible apply lenR_own) ; (focus (apply Own.upTo ; (focus assumption) ; (repeat (first | exact Gr.refl _ _ | assumption | with_reducible refine Gr.trans ?_ (Gr.boxN _ _ _ _ _) | refine Gr.setNew ?_ (by first | exact Nat.le_refl _ | (simp only [newB_length, List.length_set, List.length_append, List.length_singleton]; omega) | omega) _ | refine Gr.addN ?_ _ | refine Gr.newN ?_ _ _ _ | exact Gr.trans (by assumption) (by assumption) | refine Gr.trans ?_ (by assumption) | refine Gr.trans (by assumption) ?_)) ; (first | done | fail))))
      | ((with_reducible apply rowsR_own) ; (focus assumption))
      | ((with_reducible apply rowsR_own) ; (focus (apply Own.upTo ; (focus assumption) ; (repeat (first | exact Gr.refl _ _ | assumption | with_reducible refine Gr.trans ?_ (Gr.boxN _ _ _ _ _) | refine Gr.setNew ?_ (by first | exact Nat.le_refl _ | (simp only [newB_length, List.length_set, List.length_append, List.length_singleton]; omega) | omega) _ | refine Gr.addN ?_ _ | refine Gr.newN ?_ _ _ _ | exact Gr.trans (by assumption) (by assumption) | refine Gr.trans ?_ (by assumption) | refine Gr.trans (by assumption) ?_)) ; (first | done | fail))))
      | ((with_reducible apply ia_own) ; (focus assumption))
      | ((with_reducible apply ia_own) ; (focus (apply Own.upTo ; (focus assumption) ; (repeat (first | exact Gr.refl _ _ | assumption | with_reducible refine Gr.trans ?_ (Gr.boxN _ _ _ _ _) | refine Gr.setNew ?_ (by first | exact Nat.le_refl _ | (simp only [newB_length, List.length_set, List.length_append, List.length_singleton]; omega) | omega) _ | refine Gr.addN ?_ _ | refine Gr.newN ?_ _ _ _ | exact Gr.trans (by assumption) (by assumption) | refine Gr.trans ?_ (by assumption) | refine Gr.trans (by assumption) ?_)) ; (first | done | fail))))
      | (with_reducible refine ia_sl ?_ ?_)
      | (with_reducible refine IaW.of ?_)
      | (with_reducible refine SliceW.of ?_)
      | ((with_reducible apply AppC.raw) ; (focus assumption))
      | (with_reducible refine AppC.frz ?_)
      | (with_reducible refine EqnW.of ?_)
      | (with_reducible refine CopyW.of ?_)
      | ((with_reducible apply out_own) ; (focus assumption))
      | (with_reducible refine OutW.of ?_)
      | ((with_reducible apply NOut.own) ; (focus assumption))
      | (with_reducible refine NOut.lit ?_)
      | (with_reducible refine nthR_z ?_)
      | ((with_reducible apply nthR_left) ; (focus (first | omega | (simp only [List.length_append, List.length_cons, List.length_nil, List.length_take, List.length_drop, bs_length]; omega))))
      | (with_reducible refine lenR_sl ?_)
      | (with_reducible refine lenR_nils ?_)
      | (with_reducible refine lenR_rsl ?_)
      | (with_reducible refine rowsR_sl ?_)
      | (with_reducible refine rowsR_nils ?_)
      | (with_reducible refine rowsR_rsl ?_)
      | (with_reducible refine lenR_slx ?_)
      | (with_reducible refine rowsR_slx ?_)
      | (with_reducible refine appendR_slx ?_ ?_ ?_)
      | ((with_reducible apply bytesR_intro) ; (focus (first | rfl | (simp only [bs_take, bs_drop, bs_append]; rfl))))
      | ((with_reducible apply nthR_bs) ; (focus (first | omega | (simp only [List.length_append, List.length_cons, List.length_nil, List.length_take, List.length_drop, bs_length]; omega))))
      | (with_reducible intro _)
      ))
      )
    all_goals (conv => whnf)
    all_goals (try dsimp only)
    refine ROf_call (sh c l nx pv) (by simp [sh]) (Looks.ownis (.mk' (sp := []) (by (first | exact rfl | ((repeat (first | assumption | exact get_new | exact get_set (by assumption) | exact get_set get_new | with_reducible apply get_set | apply get_set | apply get_old | (apply get_set_ne; (focus (first | omega | (simp only [newB_length, List.length_set, List.length_append, List.length_singleton, List.length_nil]; omega)))))); done))) rfl rfl)) fun H3 y hg3 hy hn3 => ?_
    rw [hR] at hy
    repeat' (first
      | ((with_reducible apply Gr.side) ; with_reducible assumption)
      | ((with_reducible apply Gr.side) ; (repeat (first | exact Gr.refl _ _ | assumption | with_reducible refine Gr.trans ?_ (Gr.boxN _ _ _ _ _) | refine Gr.setNew ?_ (by first | exact Nat.le_refl _ | (simp only [newB_length, List.length_set, List.length_append, List.length_singleton]; omega) | omega) _ | refine Gr.addN ?_ _ | refine Gr.newN ?_ _ _ _ | exact Gr.trans (by assumption) (by assumption) | refine Gr.trans ?_ (by assumption) | refine Gr.trans (by assumption) ?_)) ; (first | done | fail))
      | ((with_reducible refine Side.intro ?_) <;> (first
      | with_reducible rfl
      | omega
      | assumption
      | exact Nat.le_of_ble_eq_true rfl
      | (simp only [bs_length, List.length_append, List.length_cons, List.length_nil, List.length_take, List.length_drop, List.length_set, List.length_replicate]; omega)
      | exact .inl (by omega)
      | exact .inr (.inl ⟨rfl, by (simp only [bs_length, List.length_append, List.length_cons, List.length_nil, List.length_take, List.length_drop, List.length_set, List.length_replicate]; omega)⟩)
      | exact Ref.ok_refl _ _
      | (simp only [List.append_nil, List.nil_append, List.map_nil]; first | exact List.nodup_nil | exact nodup_bid1 _ | exact nodup_bid2 (by assumption))
      | ((first | refine fresh_tup ?_ | skip); (repeat (first |  exact FreshA.sl _ _ FreshA_bs | exact FreshA.sl _ _ FreshA_is | exact FreshA.nils | exact FreshA.nilp | exact FreshA.int _ _ | exact FreshA.bool _ | exact FreshA.str _ | exact fresh_nil | refine fresh_cons ?_ ?_ | with_reducible refine fresh_aggR ?_ | with_reducible refine fresh_agg ?_ | with_reducible exact fresh_nilA | with_reducible refine fresh_consA ?_ ?_)); done)
      | exact rfl
      | (simp; done)
      ))
      | ((conv => whnf) <;> (first
      | (with_reducible refine and_same ?_)
      | (with_reducible refine and_side ?_ ?_)
      | (with_reducible refine Br.yes rfl ?_)
      | ((with_reducible apply Br.yes) ; (focus omega))
      | ((with_reducible apply Br.no) ; (focus omega))
      | ((with_reducible apply Br.no) ; (focus assumption))
      | ((with_reducible apply Br.yes) ; (focus assumption))
      | ((with_reducible apply Br.yes) ; (focus ((with_reducible refine And.intro ?_ ?_) ; (repeat' (first | with_reducible rfl | exact True.intro | with_reducible refine And.intro ?_ ?_ | omega | assumption)) ; (first | done | fail))))
      | (with_reducible refine Br.mk (fun _ => ?_) (fun _ => ?_))
      | (with_reducible refine Both.mk ?_ ?_)
      | ((with_reducible apply blkAt_intro) ; (focus (first
      | exact rfl
      | ((repeat (first
      | assumption
      | exact get_new
      | exact get_set (by assumption)
      | exact get_set get_new
      | with_reducible apply get_set
      | apply get_set
      | apply get_old
      | (apply get_set_ne; (focus (first | omega | (simp only [newB_length, List.length_set, List.length_append, List.length_singleton, List.length_nil]; omega))))
      )); done)
      )) ; (focus (first | rfl | assumption | omega)) ; (try dsimp only))
      | ((with_reducible apply nthR_dat) ; (focus assumption))
      | ((with_reducible apply nthR_bs1) ; (focus assumption))
      | ((with_reducible apply nthR_is1) ; (focus assumption))
      | ((with_reducible apply appendR_lit) ; (focus (first
      | exact rfl
      | ((repeat (first
      | assumption
      | exact get_new
      | exact get_set (by assumption)
      | exact get_set get_new
      | with_reducible apply get_set
      | apply get_set
      | apply get_old
      | (apply get_set_ne; (focus (first | omega | (simp only [newB_length, List.length_set, List.length_append, List.length_singleton, List.length_nil]; omega))))
      )); done)
      )) ; (focus (first | rfl | assumption)) ; (focus rfl) ; (focus rfl) ; (focus rfl) ; (focus (first | exact Nat.zero_le _ | omega | (simp; done) | (simp; omega))) ; (try dsimp only))
      | (with_reducible refine appendR_nil ?_ ?_)
      | ((with_reducible apply lenR_own) ; (focus assumption))
      | ((with_reducible apply lenR_own) ; (focus (apply Own.upTo ; (focus assumption) ; (repeat (first | exact Gr.refl _ _ | assumption | with_reducible refine Gr.trans ?_ (Gr.boxN _ _ _ _ _) | refine Gr.setNew ?_ (by first | exact Nat.le_refl _ | (simp only [newB_length, List.length_set, List.length_append, List.length_singleton]; omega) | omega) _ | refine Gr.addN ?_ _ | refine Gr.newN ?_ _ _ _ | exact Gr.trans (by assumption) (by assumption) | refine Gr.trans ?_ (by assumption) | refine Gr.trans (by assumption) ?_)) ; (first | done | fail))))
      | ((with_reducible apply rowsR_own) ; (focus assumption))
      | ((with_reducible apply rowsR_own) ; (focus (apply Own.upTo ; (focus assumption) ; (repeat (first | exact Gr.refl _ _ | assumption | with_reducible refine Gr.trans ?_ (Gr.boxN _ _ _ _ _) | refine Gr.setNew ?_ (by first | exact Nat.le_refl _ | (simp only [newB_length, List.length_set, List.length_append, List.length_singleton]; omega) | omega) _ | refine Gr.addN ?_ _ | refine Gr.newN ?_ _ _ _ | exact Gr.trans (by assumption) (by assumption) | refine Gr.trans ?_ (by assumption) | refine Gr.trans (by assumption) ?_)) ; (first | done | fail))))
      | ((with_reducible apply ia_own) ; (focus assumption))
      | ((with_reducible apply ia_own) ; (focus (apply Own.upTo ; (focus assumption) ; (repeat (first | exact Gr.refl _ _ | assumption | with_reducible refine Gr.trans ?_ (Gr.boxN _ _ _ _ _) | refine Gr.setNew ?_ (by first | exact Nat.le_refl _ | (simp only [newB_length, List.length_set, List.length_append, List.length_singleton]; omega) | omega) _ | refine Gr.addN ?_ _ | refine Gr.newN ?_ _ _ _ | exact Gr.trans (by assumption) (by assumption) | refine Gr.trans ?_ (by assumption) | refine Gr.trans (by assumption) ?_)) ; (first | done | fail))))
      | (with_reducible refine ia_sl ?_ ?_)
      | (with_reducible refine IaW.of ?_)
      | (with_reducible refine SliceW.of ?_)
      | ((with_reducible apply AppC.raw) ; (focus assumption))
      | (with_reducible refine AppC.frz ?_)
      | (with_reducible refine EqnW.of ?_)
      | (with_reducible refine CopyW.of ?_)
      | ((with_reducible apply out_own) ; (focus assumption))
      | (with_reducible refine OutW.of ?_)
      | ((with_reducible apply NOut.own) ; (focus assumption))
      | (with_reducible refine NOut.lit ?_)
      | (with_reducible refine nthR_z ?_)
      | ((with_reducible apply nthR_left) ; (focus (first | omega | (simp only [List.length_append, List.length_cons, List.length_nil, List.length_take, List.length_drop, bs_length]; omega))))
      | (with_reducible refine lenR_sl ?_)
      | (with_reducible refine lenR_nils ?_)
      | (with_reducible refine lenR_rsl ?_)
      | (with_reducible refine rowsR_sl ?_)
      | (with_reducible refine rowsR_nils ?_)
      | (with_reducible refine rowsR_rsl ?_)
      | (with_reducible refine lenR_slx ?_)
      | (with_reducible refine rowsR_slx ?_)
      | (with_reducible refine appendR_slx ?_ ?_ ?_)
      | ((with_reducible apply bytesR_intro) ; (focus (first | rfl | (simp only [bs_take, bs_drop, bs_append]; rfl))))
      | ((with_reducible apply nthR_bs) ; (focus (first | omega | (simp only [List.length_append, List.length_cons, List.length_nil, List.length_take, List.length_drop, bs_length]; omega))))
      | (with_reducible intro _)
      ))
      )
    all_goals (conv => whnf)
    all_goals (try dsimp only)
    refine appendR_own (rows := bs (cat (sh c l nx pv))) hy (by simp; omega) ?_
    intro x' σ4 hx' hg4 hb4
    have e0 : bs (cat (sh c l nx pv)) ++ List.replicate (Int.toNat 224) [AV.int .u8 0] = bs (pg0 c l nx pv) := by
      rw [bs_replicate, bs_append]; rfl
    rw [e0] at hx'
    have hpl := pg0_len c l nx pv
    have hpn := bs_length (pg0 c l nx pv)
    obtain ⟨id, gen, sp, rfl, hb⟩ := hx'.ne (fun e => by rw [e] at hpn; simp at hpn; omega)
    clear hx' hb4
    repeat' (first
      | ((with_reducible apply Gr.side) ; with_reducible assumption)
      | ((with_reducible apply Gr.side) ; (repeat (first | exact Gr.refl _ _ | assumption | with_reducible refine Gr.trans ?_ (Gr.boxN _ _ _ _ _) | refine Gr.setNew ?_ (by first | exact Nat.le_refl _ | (simp only [newB_length, List.length_set, List.length_append, List.length_singleton]; omega) | omega) _ | refine Gr.addN ?_ _ | refine Gr.newN ?_ _ _ _ | exact Gr.trans (by assumption) (by assumption) | refine Gr.trans ?_ (by assumption) | refine Gr.trans (by assumption) ?_)) ; (first | done | fail))
      | ((with_reducible refine Side.intro ?_) <;> (first
      | with_reducible rfl
      | omega
      | assumption
      | exact Nat.le_of_ble_eq_true rfl
      | (simp only [bs_length, List.length_append, List.length_cons, List.length_nil, List.length_take, List.length_drop, List.length_set, List.length_replicate]; omega)
      | exact .inl (by omega)
      | exact .inr (.inl ⟨rfl, by (simp only [bs_length, List.length_append, List.length_cons, List.length_nil, List.length_take, List.length_drop, List.length_set, List.length_replicate]; omega)⟩)
      | exact Ref.ok_refl _ _
      | (simp only [List.append_nil, List.nil_append, List.map_nil]; first | exact List.nodup_nil | exact nodup_bid1 _ | exact nodup_bid2 (by assumption))
      | ((first | refine fresh_tup ?_ | skip); (repeat (first |  exact FreshA.sl _ _ FreshA_bs | exact FreshA.sl _ _ FreshA_is | exact FreshA.nils | exact FreshA.nilp | exact FreshA.int _ _ | exact FreshA.bool _ | exact FreshA.str _ | exact fresh_nil | refine fresh_cons ?_ ?_ | with_reducible refine fresh_aggR ?_ | with_reducible refine fresh_agg ?_ | with_reducible exact fresh_nilA | with_reducible refine fresh_consA ?_ ?_)); done)
      | exact rfl
      | (simp; done)
      ))
      | ((conv => whnf) <;> (first
      | (with_reducible refine and_same ?_)
      | (with_reducible refine and_side ?_ ?_)
      | (with_reducible refine Br.yes rfl ?_)
      | ((with_reducible apply Br.yes) ; (focus omega))
      | ((with_reducible apply Br.no) ; (focus omega))
      | ((with_reducible apply Br.no) ; (focus assumption))
      | ((with_reducible apply Br.yes) ; (focus assumption))
      | ((with_reducible apply Br.yes) ; (focus ((with_reducible refine And.intro ?_ ?_) ; (repeat' (first | with_reducible rfl | exact True.intro | with_reducible refine And.intro ?_ ?_ | omega | assumption)) ; (first | done | fail))))
      | (with_reducible refine Br.mk (fun _ => ?_) (fun _ => ?_))
      | (with_reducible refine Both.mk ?_ ?_)
      | ((with_reducible apply blkAt_intro) ; (focus (first
      | exact rfl
      | ((repeat (first
      | assumption
      | exact get_new
      | exact get_set (by assumption)
      | exact get_set get_new
      | with_reducible apply get_set
      | apply get_set
      | apply get_old
      | (apply get_set_ne; (focus (first | omega | (simp only [newB_length, List.length_set, List.length_append, List.length_singleton, List.length_nil]; omega))))
      )); done)
      )) ; (focus (first | rfl | assumption | omega)) ; (try dsimp only))
      | ((with_reducible apply nthR_dat) ; (focus assumption))
      | ((with_reducible apply nthR_bs1) ; (focus assumption))
      | ((with_reducible apply nthR_is1) ; (focus assumption))
      | ((with_reducible apply appendR_lit) ; (focus (first
      | exact rfl
      | ((repeat (first
      | assumption
      | exact get_new
      | exact get_set (by assumption)
      | exact get_set get_new
      | with_reducible apply get_set
      | apply get_set
      | apply get_old
      | (apply get_set_ne; (focus (first | omega | (simp only [newB_length, List.length_set, List.length_append, List.length_singleton, List.length_nil]; omega))))
      )); done)
      )) ; (focus (first | rfl | assumption)) ; (focus rfl) ; (focus rfl) ; (focus rfl) ; (focus (first | exact Nat.zero_le _ | omega | (simp; done) | (simp; omega))) ; (try dsimp only))
      | (with_reducible refine appendR_nil ?_ ?_)
      | ((with_reducible apply lenR_own) ; (focus assumption))
      | ((with_reducible apply lenR_own) ; (focus (apply Own.upTo ; (focus assumption) ; (repeat (first | exact Gr.refl _ _ | assumption | with_reducible refine Gr.trans ?_ (Gr.boxN _ _ _ _ _) | refine Gr.setNew ?_ (by first | exact Nat.le_refl _ | (simp only [newB_length, List.length_set, List.length_append, List.length_singleton]; omega) | omega) _ | refine Gr.addN ?_ _ | refine Gr.newN ?_ _ _ _ | exact Gr.trans (by assumption) (by assumption) | refine Gr.trans ?_ (by assumption) | refine Gr.trans (by assumption) ?_)) ; (first | done | fail))))
      | ((with_reducible apply rowsR_own) ; (focus assumption))
      | ((with_reducible apply rowsR_own) ; (focus (apply Own.upTo ; (focus assumption) ; (repeat (first | exact Gr.refl _ _ | assumption | with_reducible refine Gr.trans ?_ (Gr.boxN _ _ _ _ _) | refine Gr.setNew ?_ (by first | exact Nat.le_refl _ | (simp only [newB_length, List.length_set, List.length_append, List.length_singleton]; omega) | omega) _ | refine Gr.addN ?_ _ | refine Gr.newN ?_ _ _ _ | exact Gr.trans (by assumption) (by assumption) | refine Gr.trans ?_ (by assumption) | refine Gr.trans (by assumption) ?_)) ; (first | done | fail))))
      | ((with_reducible apply ia_own) ; (focus assumption))
      | ((with_reducible apply ia_own) ; (focus (apply Own.upTo ; (focus assumption) ; (repeat (first | exact Gr.refl _ _ | assumption | with_reducible refine Gr.trans ?_ (Gr.boxN _ _ _ _ _) | refine Gr.setNew ?_ (by first | exact Nat.le_refl _ | (simp only [newB_length, List.length_set, List.length_append, List.length_singleton]; omega) | omega) _ | refine Gr.addN ?_ _ | refine Gr.newN ?_ _ _ _ | exact Gr.trans (by assumption) (by assumption) | refine Gr.trans ?_ (by assumption) | refine Gr.trans (by assumption) ?_)) ; (first | done | fail))))
      | (with_reducible refine ia_sl ?_ ?_)
      | (with_reducible refine IaW.of ?_)
      | (with_reducible refine SliceW.of ?_)
      | ((with_reducible apply AppC.raw) ; (focus assumption))
      | (with_reducible refine AppC.frz ?_)
      | (with_reducible refine EqnW.of ?_)
      | (with_reducible refine CopyW.of ?_)
      | ((with_reducible apply out_own) ; (focus assumption))
      | (with_reducible refine OutW.of ?_)
      | ((with_reducible apply NOut.own) ; (focus assumption))
      | (with_reducible refine NOut.lit ?_)
      | (with_reducible refine nthR_z ?_)
      | ((with_reducible apply nthR_left) ; (focus (first | omega | (simp only [List.length_append, List.length_cons, List.length_nil, List.length_take, List.length_drop, bs_length]; omega))))
      | (with_reducible refine lenR_sl ?_)
      | (with_reducible refine lenR_nils ?_)
      | (with_reducible refine lenR_rsl ?_)
      | (with_reducible refine rowsR_sl ?_)
      | (with_reducible refine rowsR_nils ?_)
      | (with_reducible refine rowsR_rsl ?_)
      | (with_reducible refine lenR_slx ?_)
      | (with_reducible refine rowsR_slx ?_)
      | (with_reducible refine appendR_slx ?_ ?_ ?_)
      | ((with_reducible apply bytesR_intro) ; (focus (first | rfl | (simp only [bs_take, bs_drop, bs_append]; rfl))))
      | ((with_reducible apply nthR_bs) ; (focus (first | omega | (simp only [List.length_append, List.length_cons, List.length_nil, List.length_take, List.length_drop, bs_length]; omega))))
      | (with_reducible intro _)
      ))
      )
    all_goals (conv => whnf)
    all_goals (try dsimp only)
    refine loop_at (α := Nat × AH) (fun a => [(19, .int .i64 a.1)]) (fun a => a.2) (fun a => a.1 ≤ l.length ∧ (∀ d, d ∈ D.take a.1 → d.length ≤ 8 * (cw c).toNat) ∧ (pgF c (pg0 c l nx pv) (l.take a.1) (D.take a.1)).length = 256 ∧ a.2[id]? = some { sz := 1, els := bs (pgF c (pg0 c l nx pv) (l.take a.1) (D.take a.1)) ++ sp, gen := gen, wr := true, pure := true }) (fun a => l.length - a.1) (0, _) ⟨by dsimp only; omega, by simp, pg0_len c l nx pv, hb⟩ rfl rfl ?_
    rintro ⟨i, σ⟩ ⟨hi, hfit, hlen, hb⟩
    dsimp only at hi hfit hlen hb ⊢
    have hswOk : swOk c l D nx pv = fits c D := by rw [swOk, hB, Bool.true_and]
    by_cases hlt : i < l.length
    · obtain ⟨k, hk, hk'⟩ := getN hlt
      obtain ⟨d, hdd, hdd'⟩ := getN (l := D) (k := i) (by omega)
      have hce := bt_ce q1 (List.mem_of_getElem? hk')
      obtain ⟨c1, c2, c3⟩ := cof_bd hce
      have hdl := bs_length d
      have hstep := pgF_take c l D (pg0 c l nx pv) i k d hk' hdd'
      have hdm := hd d (List.mem_of_getElem? hdd')
      have hcw := cn_bd c
      have eV : ceV c k = 4 + k * cw c := by rw [ceV, hce, if_pos rfl]
      by_cases hfd : d.length ≤ 8 * (cw c).toNat
      · repeat' (first
          | ((with_reducible apply Gr.side) ; with_reducible assumption)
          | ((with_reducible apply Gr.side) ; (repeat (first | exact Gr.refl _ _ | assumption | with_reducible refine Gr.trans ?_ (Gr.boxN _ _ _ _ _) | refine Gr.setNew ?_ (by first | exact Nat.le_refl _ | (simp only [newB_length, List.length_set, List.length_append, List.length_singleton]; omega) | omega) _ | refine Gr.addN ?_ _ | refine Gr.newN ?_ _ _ _ | exact Gr.trans (by assumption) (by assumption) | refine Gr.trans ?_ (by assumption) | refine Gr.trans (by assumption) ?_)) ; (first | done | fail))
          | ((with_reducible refine Side.intro ?_) <;> (first
          | with_reducible rfl
          | omega
          | assumption
          | exact Nat.le_of_ble_eq_true rfl
          | (simp only [bs_length, List.length_append, List.length_cons, List.length_nil, List.length_take, List.length_drop, List.length_set, List.length_replicate]; omega)
          | exact .inl (by omega)
          | exact .inr (.inl ⟨rfl, by (simp only [bs_length, List.length_append, List.length_cons, List.length_nil, List.length_take, List.length_drop, List.length_set, List.length_replicate]; omega)⟩)
          | exact Ref.ok_refl _ _
          | (simp only [List.append_nil, List.nil_append, List.map_nil]; first | exact List.nodup_nil | exact nodup_bid1 _ | exact nodup_bid2 (by assumption))
          | ((first | refine fresh_tup ?_ | skip); (repeat (first |  exact FreshA.sl _ _ FreshA_bs | exact FreshA.sl _ _ FreshA_is | exact FreshA.nils | exact FreshA.nilp | exact FreshA.int _ _ | exact FreshA.bool _ | exact FreshA.str _ | exact fresh_nil | refine fresh_cons ?_ ?_ | with_reducible refine fresh_aggR ?_ | with_reducible refine fresh_agg ?_ | with_reducible exact fresh_nilA | with_reducible refine fresh_consA ?_ ?_)); done)
          | exact rfl
          | (simp; done)
          ))
          | ((conv => whnf) <;> (first
          | (with_reducible refine and_same ?_)
          | (with_reducible refine and_side ?_ ?_)
          | (with_reducible refine Br.yes rfl ?_)
          | ((with_reducible apply Br.yes) ; (focus omega))
          | ((with_reducible apply Br.no) ; (focus omega))
          | ((with_reducible apply Br.no) ; (focus assumption))
          | ((with_reducible apply Br.yes) ; (focus assumption))
          | ((with_reducible apply Br.yes) ; (focus ((with_reducible refine And.intro ?_ ?_) ; (repeat' (first | with_reducible rfl | exact True.intro | with_reducible refine And.intro ?_ ?_ | omega | assumption)) ; (first | done | fail))))
          | (with_reducible refine Br.mk (fun _ => ?_) (fun _ => ?_))
          | (with_reducible refine Both.mk ?_ ?_)
          | ((with_reducible apply blkAt_intro) ; (focus (first
          | exact rfl
          | ((repeat (first
          | assumption
          | exact get_new
          | exact get_set (by assumption)
          | exact get_set get_new
          | with_reducible apply get_set
          | apply get_set
          | apply get_old
          | (apply get_set_ne; (focus (first | omega | (simp only [newB_length, List.length_set, List.length_append, List.length_singleton, List.length_nil]; omega))))
          )); done)
          )) ; (focus (first | rfl | assumption | omega)) ; (try dsimp only))
          | ((with_reducible apply nthR_dat) ; (focus assumption))
          | ((with_reducible apply nthR_bs1) ; (focus assumption))
          | ((with_reducible apply nthR_is1) ; (focus assumption))
          | ((with_reducible apply appendR_lit) ; (focus (first
          | exact rfl
          | ((repeat (first
          | assumption
          | exact get_new
          | exact get_set (by assumption)
          | exact get_set get_new
          | with_reducible apply get_set
          | apply get_set
          | apply get_old
          | (apply get_set_ne; (focus (first | omega | (simp only [newB_length, List.length_set, List.length_append, List.length_singleton, List.length_nil]; omega))))
          )); done)
          )) ; (focus (first | rfl | assumption)) ; (focus rfl) ; (focus rfl) ; (focus rfl) ; (focus (first | exact Nat.zero_le _ | omega | (simp; done) | (simp; omega))) ; (try dsimp only))
          | (with_reducible refine appendR_nil ?_ ?_)
          | ((with_reducible apply lenR_own) ; (focus assumption))
          | ((with_reducible apply lenR_own) ; (focus (apply Own.upTo ; (focus assumption) ; (repeat (first | exact Gr.refl _ _ | assumption | with_reducible refine Gr.trans ?_ (Gr.boxN _ _ _ _ _) | refine Gr.setNew ?_ (by first | exact Nat.le_refl _ | (simp only [newB_length, List.length_set, List.length_append, List.length_singleton]; omega) | omega) _ | refine Gr.addN ?_ _ | refine Gr.newN ?_ _ _ _ | exact Gr.trans (by assumption) (by assumption) | refine Gr.trans ?_ (by assumption) | refine Gr.trans (by assumption) ?_)) ; (first | done | fail))))
          | ((with_reducible apply rowsR_own) ; (focus assumption))
          | ((with_reducible apply rowsR_own) ; (focus (apply Own.upTo ; (focus assumption) ; (repeat (first | exact Gr.refl _ _ | assumption | with_reducible refine Gr.trans ?_ (Gr.boxN _ _ _ _ _) | refine Gr.setNew ?_ (by first | exact Nat.le_refl _ | (simp only [newB_length, List.length_set, List.length_append, List.length_singleton]; omega) | omega) _ | refine Gr.addN ?_ _ | refine Gr.newN ?_ _ _ _ | exact Gr.trans (by assumption) (by assumption) | refine Gr.trans ?_ (by assumption) | refine Gr.trans (by assumption) ?_)) ; (first | done | fail))))
          | ((with_reducible apply ia_own) ; (focus assumption))
          | ((with_reducible apply ia_own) ; (focus (apply Own.upTo ; (focus assumption) ; (repeat (first | exact Gr.refl _ _ | assumption | with_reducible refine Gr.trans ?_ (Gr.boxN _ _ _ _ _) | refine Gr.setNew ?_ (by first | exact Nat.le_refl _ | (simp only [newB_length, List.length_set, List.length_append, List.length_singleton]; omega) | omega) _ | refine Gr.addN ?_ _ | refine Gr.newN ?_ _ _ _ | exact Gr.trans (by assumption) (by assumption) | refine Gr.trans ?_ (by assumption) | refine Gr.trans (by assumption) ?_)) ; (first | done | fail))))
          | (with_reducible refine ia_sl ?_ ?_)
          | (with_reducible refine IaW.of ?_)
          | (with_reducible refine SliceW.of ?_)
          | ((with_reducible apply AppC.raw) ; (focus assumption))
          | (with_reducible refine AppC.frz ?_)
          | (with_reducible refine EqnW.of ?_)
          | (with_reducible refine CopyW.of ?_)
          | ((with_reducible apply out_own) ; (focus assumption))
          | (with_reducible refine OutW.of ?_)
          | ((with_reducible apply NOut.own) ; (focus assumption))
          | (with_reducible refine NOut.lit ?_)
          | (with_reducible refine nthR_z ?_)
          | ((with_reducible apply nthR_left) ; (focus (first | omega | (simp only [List.length_append, List.length_cons, List.length_nil, List.length_take, List.length_drop, bs_length]; omega))))
          | (with_reducible refine lenR_sl ?_)
          | (with_reducible refine lenR_nils ?_)
          | (with_reducible refine lenR_rsl ?_)
          | (with_reducible refine rowsR_sl ?_)
          | (with_reducible refine rowsR_nils ?_)
          | (with_reducible refine rowsR_rsl ?_)
          | (with_reducible refine lenR_slx ?_)
          | (with_reducible refine rowsR_slx ?_)
          | (with_reducible refine appendR_slx ?_ ?_ ?_)
          | ((with_reducible apply bytesR_intro) ; (focus (first | rfl | (simp only [bs_take, bs_drop, bs_append]; rfl))))
          | ((with_reducible apply nthR_bs) ; (focus (first | omega | (simp only [List.length_append, List.length_cons, List.length_nil, List.length_take, List.length_drop, bs_length]; omega))))
          | (with_reducible intro _)
          ))
          )
        all_goals (conv => whnf)
        all_goals (try dsimp only)
        refine RCell_call c k fun H5 hg5 => ?_
        replace hb := hg5.2 id _ (by (first | exact rfl | ((repeat (first | assumption | exact get_new | exact get_set (by assumption) | exact get_set get_new | with_reducible apply get_set | apply get_set | apply get_old | (apply get_set_ne; (focus (first | omega | (simp only [newB_length, List.length_set, List.length_append, List.length_singleton, List.length_nil]; omega)))))); done))) (by simp)
        rw [eV]
        generalize hX : 4 + k * cw c = X at *
        generalize pgF c (pg0 c l nx pv) (l.take i) (D.take i) = P at *
        repeat' (first
          | ((with_reducible apply Gr.side) ; with_reducible assumption)
          | ((with_reducible apply Gr.side) ; (repeat (first | exact Gr.refl _ _ | assumption | with_reducible refine Gr.trans ?_ (Gr.boxN _ _ _ _ _) | refine Gr.setNew ?_ (by first | exact Nat.le_refl _ | (simp only [newB_length, List.length_set, List.length_append, List.length_singleton]; omega) | omega) _ | refine Gr.addN ?_ _ | refine Gr.newN ?_ _ _ _ | exact Gr.trans (by assumption) (by assumption) | refine Gr.trans ?_ (by assumption) | refine Gr.trans (by assumption) ?_)) ; (first | done | fail))
          | ((with_reducible refine Side.intro ?_) <;> (first
          | with_reducible rfl
          | omega
          | assumption
          | exact Nat.le_of_ble_eq_true rfl
          | (simp only [bs_length, List.length_append, List.length_cons, List.length_nil, List.length_take, List.length_drop, List.length_set, List.length_replicate]; omega)
          | exact .inl (by omega)
          | exact .inr (.inl ⟨rfl, by (simp only [bs_length, List.length_append, List.length_cons, List.length_nil, List.length_take, List.length_drop, List.length_set, List.length_replicate]; omega)⟩)
          | exact Ref.ok_refl _ _
          | (simp only [List.append_nil, List.nil_append, List.map_nil]; first | exact List.nodup_nil | exact nodup_bid1 _ | exact nodup_bid2 (by assumption))
          | ((first | refine fresh_tup ?_ | skip); (repeat (first |  exact FreshA.sl _ _ FreshA_bs | exact FreshA.sl _ _ FreshA_is | exact FreshA.nils | exact FreshA.nilp | exact FreshA.int _ _ | exact FreshA.bool _ | exact FreshA.str _ | exact fresh_nil | refine fresh_cons ?_ ?_ | with_reducible refine fresh_aggR ?_ | with_reducible refine fresh_agg ?_ | with_reducible exact fresh_nilA | with_reducible refine fresh_consA ?_ ?_)); done)
          | exact rfl
          | (simp; done)
          ))
          | ((conv => whnf) <;> (first
          | (with_reducible refine and_same ?_)
          | (with_reducible refine and_side ?_ ?_)
          | (with_reducible refine Br.yes rfl ?_)
          | ((with_reducible apply Br.yes) ; (focus omega))
          | ((with_reducible apply Br.no) ; (focus omega))
          | ((with_reducible apply Br.no) ; (focus assumption))
          | ((with_reducible apply Br.yes) ; (focus assumption))
          | ((with_reducible apply Br.yes) ; (focus ((with_reducible refine And.intro ?_ ?_) ; (repeat' (first | with_reducible rfl | exact True.intro | with_reducible refine And.intro ?_ ?_ | omega | assumption)) ; (first | done | fail))))
          | (with_reducible refine Br.mk (fun _ => ?_) (fun _ => ?_))
          | (with_reducible refine Both.mk ?_ ?_)
          | ((with_reducible apply blkAt_intro) ; (focus (first
          | exact rfl
          | ((repeat (first
          | assumption
          | exact get_new
          | exact get_set (by assumption)
          | exact get_set get_new
          | with_reducible apply get_set
          | apply get_set
          | apply get_old
          | (apply get_set_ne; (focus (first | omega | (simp only [newB_length, List.length_set, List.length_append, List.length_singleton, List.length_nil]; omega))))
          )); done)
          )) ; (focus (first | rfl | assumption | omega)) ; (try dsimp only))
          | ((with_reducible apply nthR_dat) ; (focus assumption))
          | ((with_reducible apply nthR_bs1) ; (focus assumption))
          | ((with_reducible apply nthR_is1) ; (focus assumption))
          | ((with_reducible apply appendR_lit) ; (focus (first
          | exact rfl
          | ((repeat (first
          | assumption
          | exact get_new
          | exact get_set (by assumption)
          | exact get_set get_new
          | with_reducible apply get_set
          | apply get_set
          | apply get_old
          | (apply get_set_ne; (focus (first | omega | (simp only [newB_length, List.length_set, List.length_append, List.length_singleton, List.length_nil]; omega))))
          )); done)
          )) ; (focus (first | rfl | assumption)) ; (focus rfl) ; (focus rfl) ; (focus rfl) ; (focus (first | exact Nat.zero_le _ | omega | (simp; done) | (simp; omega))) ; (try dsimp only))
          | (with_reducible refine appendR_nil ?_ ?_)
          | ((with_reducible apply lenR_own) ; (focus assumption))
          | ((with_reducible apply lenR_own) ; (focus (apply Own.upTo ; (focus assumption) ; (repeat (first | exact Gr.refl _ _ | assumption | with_reducible refine Gr.trans ?_ (Gr.boxN _ _ _ _ _) | refine Gr.setNew ?_ (by first | exact Nat.le_refl _ | (simp only [newB_length, List.length_set, List.length_append, List.length_singleton]; omega) | omega) _ | refine Gr.addN ?_ _ | refine Gr.newN ?_ _ _ _ | exact Gr.trans (by assumption) (by assumption) | refine Gr.trans ?_ (by assumption) | refine Gr.trans (by assumption) ?_)) ; (first | done | fail))))
          | ((with_reducible apply rowsR_own) ; (focus assumption))
          | ((with_reducible apply rowsR_own) ; (focus (apply Own.upTo ; (focus assumption) ; (repeat (first | exact Gr.refl _ _ | assumption | with_reducible refine Gr.trans ?_ (Gr.boxN _ _ _ _ _) | refine Gr.setNew ?_ (by first | exact Nat.le_refl _ | (simp only [newB_length, List.length_set, List.length_append, List.length_singleton]; omega) | omega) _ | refine Gr.addN ?_ _ | refine Gr.newN ?_ _ _ _ | exact Gr.trans (by assumption) (by assumption) | refine Gr.trans ?_ (by assumption) | refine Gr.trans (by assumption) ?_)) ; (first | done | fail))))
          | ((with_reducible apply ia_own) ; (focus assumption))
          | ((with_reducible apply ia_own) ; (focus (apply Own.upTo ; (focus assumption) ; (repeat (first | exact Gr.refl _ _ | assumption | with_reducible refine Gr.trans ?_ (Gr.boxN _ _ _ _ _) | refine Gr.setNew ?_ (by first | exact Nat.le_refl _ | (simp only [newB_length, List.length_set, List.length_append, List.length_singleton]; omega) | omega) _ | refine Gr.addN ?_ _ | refine Gr.newN ?_ _ _ _ | exact Gr.trans (by assumption) (by assumption) | refine Gr.trans ?_ (by assumption) | refine Gr.trans (by assumption) ?_)) ; (first | done | fail))))
          | (with_reducible refine ia_sl ?_ ?_)
          | (with_reducible refine IaW.of ?_)
          | (with_reducible refine SliceW.of ?_)
          | ((with_reducible apply AppC.raw) ; (focus assumption))
          | (with_reducible refine AppC.frz ?_)
          | (with_reducible refine EqnW.of ?_)
          | (with_reducible refine CopyW.of ?_)
          | ((with_reducible apply out_own) ; (focus assumption))
          | (with_reducible refine OutW.of ?_)
          | ((with_reducible apply NOut.own) ; (focus assumption))
          | (with_reducible refine NOut.lit ?_)
          | (with_reducible refine nthR_z ?_)
          | ((with_reducible apply nthR_left) ; (focus (first | omega | (simp only [List.length_append, List.length_cons, List.length_nil, List.length_take, List.length_drop, bs_length]; omega))))
          | (with_reducible refine lenR_sl ?_)
          | (with_reducible refine lenR_nils ?_)
          | (with_reducible refine lenR_rsl ?_)
          | (with_reducible refine rowsR_sl ?_)
          | (with_reducible refine rowsR_nils ?_)
          | (with_reducible refine rowsR_rsl ?_)
          | (with_reducible refine lenR_slx ?_)
          | (with_reducible refine rowsR_slx ?_)
          | (with_reducible refine appendR_slx ?_ ?_ ?_)
          | ((with_reducible apply bytesR_intro) ; (focus (first | rfl | (simp only [bs_take, bs_drop, bs_append]; rfl))))
          | ((with_reducible apply nthR_bs) ; (focus (first | omega | (simp only [List.length_append, List.length_cons, List.length_nil, List.length_take, List.length_drop, bs_length]; omega))))
          | (with_reducible intro _)
          ))
          )
        all_goals (conv => whnf)
        all_goals (try dsimp only)
        refine loop_at (α := Nat × AH) (fun a => [(22, .int .i64 a.1)]) (fun a => a.2) (fun a => a.1 ≤ d.length ∧ a.2[id]? = some { sz := 1, els := bs (pt P (cof c k) (d.take a.1)) ++ sp, gen := gen, wr := true, pure := true }) (fun a => d.length - a.1) (0, _) ⟨Nat.zero_le _, by rw [show pt P (cof c k) (d.take 0) = P from by simp [pt]]; exact hb⟩ rfl rfl ?_
        rintro ⟨m, σ2⟩ ⟨hm, hb2⟩
        dsimp only at hm hb2 ⊢
        by_cases hmlt : m < d.length
        · obtain ⟨v, hv, hv'⟩ := getN hmlt
          have hql := bs_length (pt P (cof c k) (d.take m))
          have htl : (d.take m).length = m := by rw [List.length_take]; omega
          have hptl := pt_length (p := P) (a := cof c k) (d := d.take m) (by omega)
          have hset := wr_step P d (cof c k) m v hv' (by omega)
          have hpt1 : pt P (cof c k) (d.take (m + 1)) = P.take (cof c k) ++ d.take (m + 1) ++ P.drop (cof c k + (m + 1)) := by
            unfold pt
            rw [show (d.take (m + 1)).length = m + 1 from by rw [List.length_take]; omega]
          have hpt0 : pt P (cof c k) (d.take m) = P.take (cof c k) ++ d.take m ++ P.drop (cof c k + m) := by
            unfold pt
            rw [htl]
          repeat' (first
            | ((with_reducible apply Gr.side) ; with_reducible assumption)
            | ((with_reducible apply Gr.side) ; (repeat (first | exact Gr.refl _ _ | assumption | with_reducible refine Gr.trans ?_ (Gr.boxN _ _ _ _ _) | refine Gr.setNew ?_ (by first | exact Nat.le_refl _ | (simp only [newB_length, List.length_set, List.length_append, List.length_singleton]; omega) | omega) _ | refine Gr.addN ?_ _ | refine Gr.newN ?_ _ _ _ | exact Gr.trans (by assumption) (by assumption) | refine Gr.trans ?_ (by assumption) | refine Gr.trans (by assumption) ?_)) ; (first | done | fail))
            | ((with_reducible refine Side.intro ?_) <;> (first
            | with_reducible rfl
            | omega
            | assumption
            | exact Nat.le_of_ble_eq_true rfl
            | (simp only [bs_length, List.length_append, List.length_cons, List.length_nil, List.length_take, List.length_drop, List.length_set, List.length_replicate]; omega)
            | exact .inl (by omega)
            | exact .inr (.inl ⟨rfl, by (simp only [bs_length, List.length_append, List.length_cons, List.length_nil, List.length_take, List.length_drop, List.length_set, List.length_replicate]; omega)⟩)
            | exact Ref.ok_refl _ _
            | (simp only [List.append_nil, List.nil_append, List.map_nil]; first | exact List.nodup_nil | exact nodup_bid1 _ | exact nodup_bid2 (by assumption))
            | ((first | refine fresh_tup ?_ | skip); (repeat (first |  exact FreshA.sl _ _ FreshA_bs | exact FreshA.sl _ _ FreshA_is | exact FreshA.nils | exact FreshA.nilp | exact FreshA.int _ _ | exact FreshA.bool _ | exact FreshA.str _ | exact fresh_nil | refine fresh_cons ?_ ?_ | with_reducible refine fresh_aggR ?_ | with_reducible refine fresh_agg ?_ | with_reducible exact fresh_nilA | with_reducible refine fresh_consA ?_ ?_)); done)
            | exact rfl
            | (simp; done)
            ))
            | ((conv => whnf) <;> (first
            | (with_reducible refine and_same ?_)
            | (with_reducible refine and_side ?_ ?_)
            | (with_reducible refine Br.yes rfl ?_)
            | ((with_reducible apply Br.yes) ; (focus omega))
            | ((with_reducible apply Br.no) ; (focus omega))
            | ((with_reducible apply Br.no) ; (focus assumption))
            | ((with_reducible apply Br.yes) ; (focus assumption))
            | ((with_reducible apply Br.yes) ; (focus ((with_reducible refine And.intro ?_ ?_) ; (repeat' (first | with_reducible rfl | exact True.intro | with_reducible refine And.intro ?_ ?_ | omega | assumption)) ; (first | done | fail))))
            | (with_reducible refine Br.mk (fun _ => ?_) (fun _ => ?_))
            | (with_reducible refine Both.mk ?_ ?_)
            | ((with_reducible apply blkAt_intro) ; (focus (first
            | exact rfl
            | ((repeat (first
            | assumption
            | exact get_new
            | exact get_set (by assumption)
            | exact get_set get_new
            | with_reducible apply get_set
            | apply get_set
            | apply get_old
            | (apply get_set_ne; (focus (first | omega | (simp only [newB_length, List.length_set, List.length_append, List.length_singleton, List.length_nil]; omega))))
            )); done)
            )) ; (focus (first | rfl | assumption | omega)) ; (try dsimp only))
            | ((with_reducible apply nthR_dat) ; (focus assumption))
            | ((with_reducible apply nthR_bs1) ; (focus assumption))
            | ((with_reducible apply nthR_is1) ; (focus assumption))
            | ((with_reducible apply appendR_lit) ; (focus (first
            | exact rfl
            | ((repeat (first
            | assumption
            | exact get_new
            | exact get_set (by assumption)
            | exact get_set get_new
            | with_reducible apply get_set
            | apply get_set
            | apply get_old
            | (apply get_set_ne; (focus (first | omega | (simp only [newB_length, List.length_set, List.length_append, List.length_singleton, List.length_nil]; omega))))
            )); done)
            )) ; (focus (first | rfl | assumption)) ; (focus rfl) ; (focus rfl) ; (focus rfl) ; (focus (first | exact Nat.zero_le _ | omega | (simp; done) | (simp; omega))) ; (try dsimp only))
            | (with_reducible refine appendR_nil ?_ ?_)
            | ((with_reducible apply lenR_own) ; (focus assumption))
            | ((with_reducible apply lenR_own) ; (focus (apply Own.upTo ; (focus assumption) ; (repeat (first | exact Gr.refl _ _ | assumption | with_reducible refine Gr.trans ?_ (Gr.boxN _ _ _ _ _) | refine Gr.setNew ?_ (by first | exact Nat.le_refl _ | (simp only [newB_length, List.length_set, List.length_append, List.length_singleton]; omega) | omega) _ | refine Gr.addN ?_ _ | refine Gr.newN ?_ _ _ _ | exact Gr.trans (by assumption) (by assumption) | refine Gr.trans ?_ (by assumption) | refine Gr.trans (by assumption) ?_)) ; (first | done | fail))))
            | ((with_reducible apply rowsR_own) ; (focus assumption))
            | ((with_reducible apply rowsR_own) ; (focus (apply Own.upTo ; (focus assumption) ; (repeat (first | exact Gr.refl _ _ | assumption | with_reducible refine Gr.trans ?_ (Gr.boxN _ _ _ _ _) | refine Gr.setNew ?_ (by first | exact Nat.le_refl _ | (simp only [newB_length, List.length_set, List.length_append, List.length_singleton]; omega) | omega) _ | refine Gr.addN ?_ _ | refine Gr.newN ?_ _ _ _ | exact Gr.trans (by assumption) (by assumption) | refine Gr.trans ?_ (by assumption) | refine Gr.trans (by assumption) ?_)) ; (first | done | fail))))
            | ((with_reducible apply ia_own) ; (focus assumption))
            | ((with_reducible apply ia_own) ; (focus (apply Own.upTo ; (focus assumption) ; (repeat (first | exact Gr.refl _ _ | assumption | with_reducible refine Gr.trans ?_ (Gr.boxN _ _ _ _ _) | refine Gr.setNew ?_ (by first | exact Nat.le_refl _ | (simp only [newB_length, List.length_set, List.length_append, List.length_singleton]; omega) | omega) _ | refine Gr.addN ?_ _ | refine Gr.newN ?_ _ _ _ | exact Gr.trans (by assumption) (by assumption) | refine Gr.trans ?_ (by assumption) | refine Gr.trans (by assumption) ?_)) ; (first | done | fail))))
            | (with_reducible refine ia_sl ?_ ?_)
            | (with_reducible refine IaW.of ?_)
            | (with_reducible refine SliceW.of ?_)
            | ((with_reducible apply AppC.raw) ; (focus assumption))
            | (with_reducible refine AppC.frz ?_)
            | (with_reducible refine EqnW.of ?_)
            | (with_reducible refine CopyW.of ?_)
            | ((with_reducible apply out_own) ; (focus assumption))
            | (with_reducible refine OutW.of ?_)
            | ((with_reducible apply NOut.own) ; (focus assumption))
            | (with_reducible refine NOut.lit ?_)
            | (with_reducible refine nthR_z ?_)
            | ((with_reducible apply nthR_left) ; (focus (first | omega | (simp only [List.length_append, List.length_cons, List.length_nil, List.length_take, List.length_drop, bs_length]; omega))))
            | (with_reducible refine lenR_sl ?_)
            | (with_reducible refine lenR_nils ?_)
            | (with_reducible refine lenR_rsl ?_)
            | (with_reducible refine rowsR_sl ?_)
            | (with_reducible refine rowsR_nils ?_)
            | (with_reducible refine rowsR_rsl ?_)
            | (with_reducible refine lenR_slx ?_)
            | (with_reducible refine rowsR_slx ?_)
            | (with_reducible refine appendR_slx ?_ ?_ ?_)
            | ((with_reducible apply bytesR_intro) ; (focus (first | rfl | (simp only [bs_take, bs_drop, bs_append]; rfl))))
            | ((with_reducible apply nthR_bs) ; (focus (first | omega | (simp only [List.length_append, List.length_cons, List.length_nil, List.length_take, List.length_drop, bs_length]; omega))))
            | (with_reducible intro _)
            ))
            )
          all_goals (conv => whnf)
          all_goals (try dsimp only)
          have e2 : (bs (pt P (cof c k) (d.take m)) ++ sp).set (0 + (8 * X + (m : Int)).toNat) [AV.int IntKind.u8 (v.toNat : Int)] = bs (pt P (cof c k) (d.take (m + 1))) ++ sp := by
            rw [show 0 + (8 * X + (m : Int)).toNat = cof c k + m from by omega, List.set_append_left _ _ (by omega), hpt0, hpt1, ← hset]
            exact congrArg (· ++ sp) (bs_set _ _ v)
          rw [e2]
          refine ⟨(m + 1, _), rfl, rfl, ⟨by dsimp only; omega, get_set hb2⟩, by dsimp only; omega⟩
        · have hmm : m = d.length := by omega
          subst hmm
          rw [List.take_length] at hb2
          repeat' (first
            | ((with_reducible apply Gr.side) ; with_reducible assumption)
            | ((with_reducible apply Gr.side) ; (repeat (first | exact Gr.refl _ _ | assumption | with_reducible refine Gr.trans ?_ (Gr.boxN _ _ _ _ _) | refine Gr.setNew ?_ (by first | exact Nat.le_refl _ | (simp only [newB_length, List.length_set, List.length_append, List.length_singleton]; omega) | omega) _ | refine Gr.addN ?_ _ | refine Gr.newN ?_ _ _ _ | exact Gr.trans (by assumption) (by assumption) | refine Gr.trans ?_ (by assumption) | refine Gr.trans (by assumption) ?_)) ; (first | done | fail))
            | ((with_reducible refine Side.intro ?_) <;> (first
            | with_reducible rfl
            | omega
            | assumption
            | exact Nat.le_of_ble_eq_true rfl
            | (simp only [bs_length, List.length_append, List.length_cons, List.length_nil, List.length_take, List.length_drop, List.length_set, List.length_replicate]; omega)
            | exact .inl (by omega)
            | exact .inr (.inl ⟨rfl, by (simp only [bs_length, List.length_append, List.length_cons, List.length_nil, List.length_take, List.length_drop, List.length_set, List.length_replicate]; omega)⟩)
            | exact Ref.ok_refl _ _
            | (simp only [List.append_nil, List.nil_append, List.map_nil]; first | exact List.nodup_nil | exact nodup_bid1 _ | exact nodup_bid2 (by assumption))
            | ((first | refine fresh_tup ?_ | skip); (repeat (first |  exact FreshA.sl _ _ FreshA_bs | exact FreshA.sl _ _ FreshA_is | exact FreshA.nils | exact FreshA.nilp | exact FreshA.int _ _ | exact FreshA.bool _ | exact FreshA.str _ | exact fresh_nil | refine fresh_cons ?_ ?_ | with_reducible refine fresh_aggR ?_ | with_reducible refine fresh_agg ?_ | with_reducible exact fresh_nilA | with_reducible refine fresh_consA ?_ ?_)); done)
            | exact rfl
            | (simp; done)
            ))
            | ((conv => whnf) <;> (first
            | (with_reducible refine and_same ?_)
            | (with_reducible refine and_side ?_ ?_)
            | (with_reducible refine Br.yes rfl ?_)
            | ((with_reducible apply Br.yes) ; (focus omega))
            | ((with_reducible apply Br.no) ; (focus omega))
            | ((with_reducible apply Br.no) ; (focus assumption))
            | ((with_reducible apply Br.yes) ; (focus assumption))
            | ((with_reducible apply Br.yes) ; (focus ((with_reducible refine And.intro ?_ ?_) ; (repeat' (first | with_reducible rfl | exact True.intro | with_reducible refine And.intro ?_ ?_ | omega | assumption)) ; (first | done | fail))))
            | (with_reducible refine Br.mk (fun _ => ?_) (fun _ => ?_))
            | (with_reducible refine Both.mk ?_ ?_)
            | ((with_reducible apply blkAt_intro) ; (focus (first
            | exact rfl
            | ((repeat (first
            | assumption
            | exact get_new
            | exact get_set (by assumption)
            | exact get_set get_new
            | with_reducible apply get_set
            | apply get_set
            | apply get_old
            | (apply get_set_ne; (focus (first | omega | (simp only [newB_length, List.length_set, List.length_append, List.length_singleton, List.length_nil]; omega))))
            )); done)
            )) ; (focus (first | rfl | assumption | omega)) ; (try dsimp only))
            | ((with_reducible apply nthR_dat) ; (focus assumption))
            | ((with_reducible apply nthR_bs1) ; (focus assumption))
            | ((with_reducible apply nthR_is1) ; (focus assumption))
            | ((with_reducible apply appendR_lit) ; (focus (first
            | exact rfl
            | ((repeat (first
            | assumption
            | exact get_new
            | exact get_set (by assumption)
            | exact get_set get_new
            | with_reducible apply get_set
            | apply get_set
            | apply get_old
            | (apply get_set_ne; (focus (first | omega | (simp only [newB_length, List.length_set, List.length_append, List.length_singleton, List.length_nil]; omega))))
            )); done)
            )) ; (focus (first | rfl | assumption)) ; (focus rfl) ; (focus rfl) ; (focus rfl) ; (focus (first | exact Nat.zero_le _ | omega | (simp; done) | (simp; omega))) ; (try dsimp only))
            | (with_reducible refine appendR_nil ?_ ?_)
            | ((with_reducible apply lenR_own) ; (focus assumption))
            | ((with_reducible apply lenR_own) ; (focus (apply Own.upTo ; (focus assumption) ; (repeat (first | exact Gr.refl _ _ | assumption | with_reducible refine Gr.trans ?_ (Gr.boxN _ _ _ _ _) | refine Gr.setNew ?_ (by first | exact Nat.le_refl _ | (simp only [newB_length, List.length_set, List.length_append, List.length_singleton]; omega) | omega) _ | refine Gr.addN ?_ _ | refine Gr.newN ?_ _ _ _ | exact Gr.trans (by assumption) (by assumption) | refine Gr.trans ?_ (by assumption) | refine Gr.trans (by assumption) ?_)) ; (first | done | fail))))
            | ((with_reducible apply rowsR_own) ; (focus assumption))
            | ((with_reducible apply rowsR_own) ; (focus (apply Own.upTo ; (focus assumption) ; (repeat (first | exact Gr.refl _ _ | assumption | with_reducible refine Gr.trans ?_ (Gr.boxN _ _ _ _ _) | refine Gr.setNew ?_ (by first | exact Nat.le_refl _ | (simp only [newB_length, List.length_set, List.length_append, List.length_singleton]; omega) | omega) _ | refine Gr.addN ?_ _ | refine Gr.newN ?_ _ _ _ | exact Gr.trans (by assumption) (by assumption) | refine Gr.trans ?_ (by assumption) | refine Gr.trans (by assumption) ?_)) ; (first | done | fail))))
            | ((with_reducible apply ia_own) ; (focus assumption))
            | ((with_reducible apply ia_own) ; (focus (apply Own.upTo ; (focus assumption) ; (repeat (first | exact Gr.refl _ _ | assumption | with_reducible refine Gr.trans ?_ (Gr.boxN _ _ _ _ _) | refine Gr.setNew ?_ (by first | exact Nat.le_refl _ | (simp only [newB_length, List.length_set, List.length_append, List.length_singleton]; omega) | omega) _ | refine Gr.addN ?_ _ | refine Gr.newN ?_ _ _ _ | exact Gr.trans (by assumption) (by assumption) | refine Gr.trans ?_ (by assumption) | refine Gr.trans (by assumption) ?_)) ; (first | done | fail))))
            | (with_reducible refine ia_sl ?_ ?_)
            | (with_reducible refine IaW.of ?_)
            | (with_reducible refine SliceW.of ?_)
            | ((with_reducible apply AppC.raw) ; (focus assumption))
            | (with_reducible refine AppC.frz ?_)
            | (with_reducible refine EqnW.of ?_)
            | (with_reducible refine CopyW.of ?_)
            | ((with_reducible apply out_own) ; (focus assumption))
            | (with_reducible refine OutW.of ?_)
            | ((with_reducible apply NOut.own) ; (focus assumption))
            | (with_reducible refine NOut.lit ?_)
            | (with_reducible refine nthR_z ?_)
            | ((with_reducible apply nthR_left) ; (focus (first | omega | (simp only [List.length_append, List.length_cons, List.length_nil, List.length_take, List.length_drop, bs_length]; omega))))
            | (with_reducible refine lenR_sl ?_)
            | (with_reducible refine lenR_nils ?_)
            | (with_reducible refine lenR_rsl ?_)
            | (with_reducible refine rowsR_sl ?_)
            | (with_reducible refine rowsR_nils ?_)
            | (with_reducible refine rowsR_rsl ?_)
            | (with_reducible refine lenR_slx ?_)
            | (with_reducible refine rowsR_slx ?_)
            | (with_reducible refine appendR_slx ?_ ?_ ?_)
            | ((with_reducible apply bytesR_intro) ; (focus (first | rfl | (simp only [bs_take, bs_drop, bs_append]; rfl))))
            | ((with_reducible apply nthR_bs) ; (focus (first | omega | (simp only [List.length_append, List.length_cons, List.length_nil, List.length_take, List.length_drop, bs_length]; omega))))
            | (with_reducible intro _)
            ))
            )
          all_goals (conv => whnf)
          all_goals (try dsimp only)
          refine ⟨(i + 1, _), rfl, rfl, ⟨by dsimp only; omega, ?_, ?_, ?_⟩, by dsimp only; omega⟩
          · intro d' hd'
            dsimp only at hd'
            rw [List.take_add_one, hdd'] at hd'
            rcases List.mem_append.1 hd' with q | q
            · exact hfit d' q
            · simp only [Option.toList_some, List.mem_singleton] at q
              rw [q]; exact hfd
          · dsimp only
            rw [hstep, putC_pt, pt_length (by omega)]; exact hlen
          · dsimp only
            rw [hstep, putC_pt]; exact hb2
      · have hno : fits c D = false := by
          rw [fits, List.all_eq_false]
          exact ⟨d, List.mem_of_getElem? hdd', by simpa using hfd⟩
        rw [swR, swE, hswOk, hno]
        repeat' (first
          | ((with_reducible apply Gr.side) ; with_reducible assumption)
          | ((with_reducible apply Gr.side) ; (repeat (first | exact Gr.refl _ _ | assumption | with_reducible refine Gr.trans ?_ (Gr.boxN _ _ _ _ _) | refine Gr.setNew ?_ (by first | exact Nat.le_refl _ | (simp only [newB_length, List.length_set, List.length_append, List.length_singleton]; omega) | omega) _ | refine Gr.addN ?_ _ | refine Gr.newN ?_ _ _ _ | exact Gr.trans (by assumption) (by assumption) | refine Gr.trans ?_ (by assumption) | refine Gr.trans (by assumption) ?_)) ; (first | done | fail))
          | ((with_reducible refine Side.intro ?_) <;> (first
          | with_reducible rfl
          | omega
          | assumption
          | exact Nat.le_of_ble_eq_true rfl
          | (simp only [bs_length, List.length_append, List.length_cons, List.length_nil, List.length_take, List.length_drop, List.length_set, List.length_replicate]; omega)
          | exact .inl (by omega)
          | exact .inr (.inl ⟨rfl, by (simp only [bs_length, List.length_append, List.length_cons, List.length_nil, List.length_take, List.length_drop, List.length_set, List.length_replicate]; omega)⟩)
          | exact Ref.ok_refl _ _
          | (simp only [List.append_nil, List.nil_append, List.map_nil]; first | exact List.nodup_nil | exact nodup_bid1 _ | exact nodup_bid2 (by assumption))
          | ((first | refine fresh_tup ?_ | skip); (repeat (first |  exact FreshA.sl _ _ FreshA_bs | exact FreshA.sl _ _ FreshA_is | exact FreshA.nils | exact FreshA.nilp | exact FreshA.int _ _ | exact FreshA.bool _ | exact FreshA.str _ | exact fresh_nil | refine fresh_cons ?_ ?_ | with_reducible refine fresh_aggR ?_ | with_reducible refine fresh_agg ?_ | with_reducible exact fresh_nilA | with_reducible refine fresh_consA ?_ ?_)); done)
          | exact rfl
          | (simp; done)
          ))
          | ((conv => whnf) <;> (first
          | (with_reducible refine and_same ?_)
          | (with_reducible refine and_side ?_ ?_)
          | (with_reducible refine Br.yes rfl ?_)
          | ((with_reducible apply Br.yes) ; (focus omega))
          | ((with_reducible apply Br.no) ; (focus omega))
          | ((with_reducible apply Br.no) ; (focus assumption))
          | ((with_reducible apply Br.yes) ; (focus assumption))
          | ((with_reducible apply Br.yes) ; (focus ((with_reducible refine And.intro ?_ ?_) ; (repeat' (first | with_reducible rfl | exact True.intro | with_reducible refine And.intro ?_ ?_ | omega | assumption)) ; (first | done | fail))))
          | (with_reducible refine Br.mk (fun _ => ?_) (fun _ => ?_))
          | (with_reducible refine Both.mk ?_ ?_)
          | ((with_reducible apply blkAt_intro) ; (focus (first
          | exact rfl
          | ((repeat (first
          | assumption
          | exact get_new
          | exact get_set (by assumption)
          | exact get_set get_new
          | with_reducible apply get_set
          | apply get_set
          | apply get_old
          | (apply get_set_ne; (focus (first | omega | (simp only [newB_length, List.length_set, List.length_append, List.length_singleton, List.length_nil]; omega))))
          )); done)
          )) ; (focus (first | rfl | assumption | omega)) ; (try dsimp only))
          | ((with_reducible apply nthR_dat) ; (focus assumption))
          | ((with_reducible apply nthR_bs1) ; (focus assumption))
          | ((with_reducible apply nthR_is1) ; (focus assumption))
          | ((with_reducible apply appendR_lit) ; (focus (first
          | exact rfl
          | ((repeat (first
          | assumption
          | exact get_new
          | exact get_set (by assumption)
          | exact get_set get_new
          | with_reducible apply get_set
          | apply get_set
          | apply get_old
          | (apply get_set_ne; (focus (first | omega | (simp only [newB_length, List.length_set, List.length_append, List.length_singleton, List.length_nil]; omega))))
          )); done)
          )) ; (focus (first | rfl | assumption)) ; (focus rfl) ; (focus rfl) ; (focus rfl) ; (focus (first | exact Nat.zero_le _ | omega | (simp; done) | (simp; omega))) ; (try dsimp only))
          | (with_reducible refine appendR_nil ?_ ?_)
          | ((with_reducible apply lenR_own) ; (focus assumption))
          | ((with_reducible apply lenR_own) ; (focus (apply Own.upTo ; (focus assumption) ; (repeat (first | exact Gr.refl _ _ | assumption | with_reducible refine Gr.trans ?_ (Gr.boxN _ _ _ _ _) | refine Gr.setNew ?_ (by first | exact Nat.le_refl _ | (simp only [newB_length, List.length_set, List.length_append, List.length_singleton]; omega) | omega) _ | refine Gr.addN ?_ _ | refine Gr.newN ?_ _ _ _ | exact Gr.trans (by assumption) (by assumption) | refine Gr.trans ?_ (by assumption) | refine Gr.trans (by assumption) ?_)) ; (first | done | fail))))
          | ((with_reducible apply rowsR_own) ; (focus assumption))
          | ((with_reducible apply rowsR_own) ; (focus (apply Own.upTo ; (focus assumption) ; (repeat (first | exact Gr.refl _ _ | assumption | with_reducible refine Gr.trans ?_ (Gr.boxN _ _ _ _ _) | refine Gr.setNew ?_ (by first | exact Nat.le_refl _ | (simp only [newB_length, List.length_set, List.length_append, List.length_singleton]; omega) | omega) _ | refine Gr.addN ?_ _ | refine Gr.newN ?_ _ _ _ | exact Gr.trans (by assumption) (by assumption) | refine Gr.trans ?_ (by assumption) | refine Gr.trans (by assumption) ?_)) ; (first | done | fail))))
          | ((with_reducible apply ia_own) ; (focus assumption))
          | ((with_reducible apply ia_own) ; (focus (apply Own.upTo ; (focus assumption) ; (repeat (first | exact Gr.refl _ _ | assumption | with_reducible refine Gr.trans ?_ (Gr.boxN _ _ _ _ _) | refine Gr.setNew ?_ (by first | exact Nat.le_refl _ | (simp only [newB_length, List.length_set, List.length_append, List.length_singleton]; omega) | omega) _ | refine Gr.addN ?_ _ | refine Gr.newN ?_ _ _ _ | exact Gr.trans (by assumption) (by assumption) | refine Gr.trans ?_ (by assumption) | refine Gr.trans (by assumption) ?_)) ; (first | done | fail))))
          | (with_reducible refine ia_sl ?_ ?_)
          | (with_reducible refine IaW.of ?_)
          | (with_reducible refine SliceW.of ?_)
          | ((with_reducible apply AppC.raw) ; (focus assumption))
          | (with_reducible refine AppC.frz ?_)
          | (with_reducible refine EqnW.of ?_)
          | (with_reducible refine CopyW.of ?_)
          | ((with_reducible apply out_own) ; (focus assumption))
          | (with_reducible refine OutW.of ?_)
          | ((with_reducible apply NOut.own) ; (focus assumption))
          | (with_reducible refine NOut.lit ?_)
          | (with_reducible refine nthR_z ?_)
          | ((with_reducible apply nthR_left) ; (focus (first | omega | (simp only [List.length_append, List.length_cons, List.length_nil, List.length_take, List.length_drop, bs_length]; omega))))
          | (with_reducible refine lenR_sl ?_)
          | (with_reducible refine lenR_nils ?_)
          | (with_reducible refine lenR_rsl ?_)
          | (with_reducible refine rowsR_sl ?_)
          | (with_reducible refine rowsR_nils ?_)
          | (with_reducible refine rowsR_rsl ?_)
          | (with_reducible refine lenR_slx ?_)
          | (with_reducible refine rowsR_slx ?_)
          | (with_reducible refine appendR_slx ?_ ?_ ?_)
          | ((with_reducible apply bytesR_intro) ; (focus (first | rfl | (simp only [bs_take, bs_drop, bs_append]; rfl))))
          | ((with_reducible apply nthR_bs) ; (focus (first | omega | (simp only [List.length_append, List.length_cons, List.length_nil, List.length_take, List.length_drop, bs_length]; omega))))
          | (with_reducible intro _)
          ))
          )
        all_goals (conv => whnf)
        all_goals (try dsimp only)
        exact ret_nilt rfl
    · have hil : i = l.length := by omega
      subst hil
      rw [List.take_length, List.take_of_length_le (show D.length ≤ l.length from by omega)] at hb hlen
      rw [List.take_of_length_le (show D.length ≤ l.length from by omega)] at hfit
      have hyes : fits c D = true := by
        rw [fits, List.all_eq_true]
        intro d hdm
        exact decide_eq_true (hfit d hdm)
      rw [swR, swE, hswOk, hyes]
      simp only [if_true]
      generalize pgF c (pg0 c l nx pv) l D = P at *
      have hPl := bs_length P
      have et : List.take (bs (pg0 c l nx pv)).length (bs P ++ sp) = bs P := by
        rw [List.take_left' (by omega)]
      repeat' (first
        | ((with_reducible apply Gr.side) ; with_reducible assumption)
        | ((with_reducible apply Gr.side) ; (repeat (first | exact Gr.refl _ _ | assumption | with_reducible refine Gr.trans ?_ (Gr.boxN _ _ _ _ _) | refine Gr.setNew ?_ (by first | exact Nat.le_refl _ | (simp only [newB_length, List.length_set, List.length_append, List.length_singleton]; omega) | omega) _ | refine Gr.addN ?_ _ | refine Gr.newN ?_ _ _ _ | exact Gr.trans (by assumption) (by assumption) | refine Gr.trans ?_ (by assumption) | refine Gr.trans (by assumption) ?_)) ; (first | done | fail))
        | ((with_reducible refine Side.intro ?_) <;> (first
        | with_reducible rfl
        | omega
        | assumption
        | exact Nat.le_of_ble_eq_true rfl
        | (simp only [bs_length, List.length_append, List.length_cons, List.length_nil, List.length_take, List.length_drop, List.length_set, List.length_replicate]; omega)
        | exact .inl (by omega)
        | exact .inr (.inl ⟨rfl, by (simp only [bs_length, List.length_append, List.length_cons, List.length_nil, List.length_take, List.length_drop, List.length_set, List.length_replicate]; omega)⟩)
        | exact Ref.ok_refl _ _
        | (simp only [List.append_nil, List.nil_append, List.map_nil]; first | exact List.nodup_nil | exact nodup_bid1 _ | exact nodup_bid2 (by assumption))
        | ((first | refine fresh_tup ?_ | skip); (repeat (first |  exact FreshA.sl _ _ FreshA_bs | exact FreshA.sl _ _ FreshA_is | exact FreshA.nils | exact FreshA.nilp | exact FreshA.int _ _ | exact FreshA.bool _ | exact FreshA.str _ | exact fresh_nil | refine fresh_cons ?_ ?_ | with_reducible refine fresh_aggR ?_ | with_reducible refine fresh_agg ?_ | with_reducible exact fresh_nilA | with_reducible refine fresh_consA ?_ ?_)); done)
        | exact rfl
        | (simp; done)
        ))
        | ((conv => whnf) <;> (first
        | (with_reducible refine and_same ?_)
        | (with_reducible refine and_side ?_ ?_)
        | (with_reducible refine Br.yes rfl ?_)
        | ((with_reducible apply Br.yes) ; (focus omega))
        | ((with_reducible apply Br.no) ; (focus omega))
        | ((with_reducible apply Br.no) ; (focus assumption))
        | ((with_reducible apply Br.yes) ; (focus assumption))
        | ((with_reducible apply Br.yes) ; (focus ((with_reducible refine And.intro ?_ ?_) ; (repeat' (first | with_reducible rfl | exact True.intro | with_reducible refine And.intro ?_ ?_ | omega | assumption)) ; (first | done | fail))))
        | (with_reducible refine Br.mk (fun _ => ?_) (fun _ => ?_))
        | (with_reducible refine Both.mk ?_ ?_)
        | ((with_reducible apply blkAt_intro) ; (focus (first
        | exact rfl
        | ((repeat (first
        | assumption
        | exact get_new
        | exact get_set (by assumption)
        | exact get_set get_new
        | with_reducible apply get_set
        | apply get_set
        | apply get_old
        | (apply get_set_ne; (focus (first | omega | (simp only [newB_length, List.length_set, List.length_append, List.length_singleton, List.length_nil]; omega))))
        )); done)
        )) ; (focus (first | rfl | assumption | omega)) ; (try dsimp only))
        | ((with_reducible apply nthR_dat) ; (focus assumption))
        | ((with_reducible apply nthR_bs1) ; (focus assumption))
        | ((with_reducible apply nthR_is1) ; (focus assumption))
        | ((with_reducible apply appendR_lit) ; (focus (first
        | exact rfl
        | ((repeat (first
        | assumption
        | exact get_new
        | exact get_set (by assumption)
        | exact get_set get_new
        | with_reducible apply get_set
        | apply get_set
        | apply get_old
        | (apply get_set_ne; (focus (first | omega | (simp only [newB_length, List.length_set, List.length_append, List.length_singleton, List.length_nil]; omega))))
        )); done)
        )) ; (focus (first | rfl | assumption)) ; (focus rfl) ; (focus rfl) ; (focus rfl) ; (focus (first | exact Nat.zero_le _ | omega | (simp; done) | (simp; omega))) ; (try dsimp only))
        | (with_reducible refine appendR_nil ?_ ?_)
        | ((with_reducible apply lenR_own) ; (focus assumption))
        | ((with_reducible apply lenR_own) ; (focus (apply Own.upTo ; (focus assumption) ; (repeat (first | exact Gr.refl _ _ | assumption | with_reducible refine Gr.trans ?_ (Gr.boxN _ _ _ _ _) | refine Gr.setNew ?_ (by first | exact Nat.le_refl _ | (simp only [newB_length, List.length_set, List.length_append, List.length_singleton]; omega) | omega) _ | refine Gr.addN ?_ _ | refine Gr.newN ?_ _ _ _ | exact Gr.trans (by assumption) (by assumption) | refine Gr.trans ?_ (by assumption) | refine Gr.trans (by assumption) ?_)) ; (first | done | fail))))
        | ((with_reducible apply rowsR_own) ; (focus assumption))
        | ((with_reducible apply rowsR_own) ; (focus (apply Own.upTo ; (focus assumption) ; (repeat (first | exact Gr.refl _ _ | assumption | with_reducible refine Gr.trans ?_ (Gr.boxN _ _ _ _ _) | refine Gr.setNew ?_ (by first | exact Nat.le_refl _ | (simp only [newB_length, List.length_set, List.length_append, List.length_singleton]; omega) | omega) _ | refine Gr.addN ?_ _ | refine Gr.newN ?_ _ _ _ | exact Gr.trans (by assumption) (by assumption) | refine Gr.trans ?_ (by assumption) | refine Gr.trans (by assumption) ?_)) ; (first | done | fail))))
        | ((with_reducible apply ia_own) ; (focus assumption))
        | ((with_reducible apply ia_own) ; (focus (apply Own.upTo ; (focus assumption) ; (repeat (first | exact Gr.refl _ _ | assumption | with_reducible refine Gr.trans ?_ (Gr.boxN _ _ _ _ _) | refine Gr.setNew ?_ (by first | exact Nat.le_refl _ | (simp only [newB_length, List.length_set, List.length_append, List.length_singleton]; omega) | omega) _ | refine Gr.addN ?_ _ | refine Gr.newN ?_ _ _ _ | exact Gr.trans (by assumption) (by assumption) | refine Gr.trans ?_ (by assumption) | refine Gr.trans (by assumption) ?_)) ; (first | done | fail))))
        | (with_reducible refine ia_sl ?_ ?_)
        | (with_reducible refine IaW.of ?_)
        | (with_reducible refine SliceW.of ?_)
        | ((with_reducible apply AppC.raw) ; (focus assumption))
        | (with_reducible refine AppC.frz ?_)
        | (with_reducible refine EqnW.of ?_)
        | (with_reducible refine CopyW.of ?_)
        | ((with_reducible apply out_own) ; (focus assumption))
        | (with_reducible refine OutW.of ?_)
        | ((with_reducible apply NOut.own) ; (focus assumption))
        | (with_reducible refine NOut.lit ?_)
        | (with_reducible refine nthR_z ?_)
        | ((with_reducible apply nthR_left) ; (focus (first | omega | (simp only [List.length_append, List.length_cons, List.length_nil, List.length_take, List.length_drop, bs_length]; omega))))
        | (with_reducible refine lenR_sl ?_)
        | (with_reducible refine lenR_nils ?_)
        | (with_reducible refine lenR_rsl ?_)
        | (with_reducible refine rowsR_sl ?_)
        | (with_reducible refine rowsR_nils ?_)
        | (with_reducible refine rowsR_rsl ?_)
        | (with_reducible refine lenR_slx ?_)
        | (with_reducible refine rowsR_slx ?_)
        | (with_reducible refine appendR_slx ?_ ?_ ?_)
        | ((with_reducible apply bytesR_intro) ; (focus (first | rfl | (simp only [bs_take, bs_drop, bs_append]; rfl))))
        | ((with_reducible apply nthR_bs) ; (focus (first | omega | (simp only [List.length_append, List.length_cons, List.length_nil, List.length_take, List.length_drop, bs_length]; omega))))
        | (with_reducible intro _)
        ))
        )
      all_goals (conv => whnf)
      all_goals (try dsimp only)
      all_goals rw [et]
      all_goals first
        | exact ret_same rfl
        | exact Side.intro (fresh_tup (fresh_cons (FreshA.sl _ _ FreshA_bs) (fresh_cons (FreshA.int _ _) fresh_nil)))
theorem RWrite_call (c : Int) (l : List Int) (D : List (List UInt8)) (nx pv : Int) (hl : l.length ≤ 4611686018) (hD : D.length ≤ 4611686018) (hd : ∀ d, d ∈ D → d.length ≤ 4611686018) {σ : AH} {x z : AV} (hx : Looks σ x (.sl 1 (is l) false)) (hz : Looks σ z (.sl 1 (Go.Proofs.Ytabdieanlhecoaa.dat D) false)) {Q : AV → AH → Prop}
    (h : ∀ σ' y, Gr σ σ' none → Own σ' 1 y (bs (swR c l D nx pv)) → New σ y → Q (.tup [y, .int .i64 (swE c l D nx pv)]) σ') : CallS Try.prog F.joistref15_Write [.int .i64 c, x, z, .int .i64 nx, .int .i64 pv] σ Q :=
  call_sl1 (RWrite_ok c l D nx pv hl hD hd) (.cons (.int _ _ _) (.cons hx (.cons hz (.cons (.int _ _ _) (.cons (.int _ _ _) .nil))))) rfl h
end Go.Proofs.Ytabdieanlhecoaa
