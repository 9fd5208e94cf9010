import Derived.Test.YtabdieanlhecoaaPref15b
import Derived.Test.YtabdieanlhecoaaPslab3
import Derived.Test.YtabdieanlhecoaaPref01
namespace Go.Proofs.Ytabdieanlhecoaa
open Go Go.Proofs.Ytabdieanlhecoaa.V
set_option maxRecDepth 20000
attribute [local irreducible] CallS AOK AOKn ALoop Side Ref.ok
theorem RGet_call (s : List UInt8) (i : Int) (hs : s.length ≤ 4611686018427) {σ : AH} {x : AV} (hx : Looks σ x (.sl 1 (bs s) false)) {Q : AV → AH → Prop} (h : ∀ σ', Gr σ σ' none → Q (.tup [.int .i64 (getV s i : Nat), .bool (getOk s i)]) σ') : CallS Try.prog F.joistref01_Get [x, .int .i64 i] σ Q :=
  call_two (ref_Get_ok s i hs) (.cons hx (.cons (.int _ _ _) .nil)) rfl rfl h
theorem cel_cut {c : Int} {t : List UInt8} {k : Int} (h6 : ceOk c k = true) {X : Int} (hX : 4 + k * cw c = X) : List.drop (8 * X).toNat (List.take (8 * (X + cw c)).toNat (bs t)) = bs (cel c t k) := by
  obtain ⟨e1, e2, e3⟩ := cof_bd h6
  have hc := cn_bd c
  rw [bs_take, bs_drop, List.drop_take, show (8 * (X + cw c)).toNat - (8 * X).toNat = 8 * (cw c).toNat from by omega, show (8 * X).toNat = cof c k from by omega]
  rfl
theorem shr_bitq {b k : Nat} (hk : k < 14) : ∃ q : Nat, (b : Int).fdiv (2 ^ min (k : Int).toNat IntKind.i64.bits) = (q : Int) ∧ q = b / 2 ^ k := by
  have e1 : min (k : Int).toNat IntKind.i64.bits = k := by
    show min (k : Int).toNat 64 = k
    omega
  have e2 : (2 : Int) ^ k = ((2 ^ k : Nat) : Int) := by norm_cast
  exact ⟨_, by rw [e1, e2, fdiv_nat], rfl⟩
set_option maxHeartbeats 4000000 in
theorem RRead_ok (t : List UInt8) (hs : t.length ≤ 4611686018) : AOKn Try.prog F.joistref15_Read [.sl 1 (bs t) false] fun y => y = .tup [.int .i64 (srI t (rof t)), .sl 1 (is (srC t)) true, .sl 1 (datT (srD t)) true, .int .i64 (srI t (rN t)), .int .i64 (srI t (rP t)), .bool (srOk t)] := by
  have htn := bs_length t
  refine AOKn.by_steps mixed fc_joistref15_Read_ok (by simp [fc_joistref15_Read]) ?_
  by_cases hlen : t.length = 256
  · have g0 := getV_bd t 0
    have g1 := getV_bd t 1
    have g2 := getV_bd t 2
    have g3 := getV_bd t 3
    repeat' (first
      | ((with_reducible apply Gr.side) ; with_reducible assumption)
      | ((with_reducible apply Gr.side) ; (repeat (first | exact Gr.refl _ _ | assumption | with_reducible refine Gr.trans ?_ (Gr.boxN _ _ _ _ _) | refine Gr.setNew ?_ (by first | exact Nat.le_refl _ | (simp only [newB_length, List.length_set, List.length_append, List.length_singleton]; omega) | omega) _ | refine Gr.addN ?_ _ | refine Gr.newN ?_ _ _ _ | exact Gr.trans (by assumption) (by assumption) | refine Gr.trans ?_ (by assumption) | refine Gr.trans (by assumption) ?_)) ; (first | done | fail))
      | ((with_reducible refine Side.intro ?_) <;> (first
      | with_reducible rfl
      | omega
      | assumption
      | exact Nat.le_of_ble_eq_true rfl
      | (simp only [bs_length, List.length_append, List.length_cons, List.length_nil, List.length_take, List.length_drop, List.length_set, List.length_replicate]; omega)
      | exact .inl (by omega)
      | exact .inr (.inl ⟨rfl, by (simp only [bs_length, List.length_append, List.length_cons, List.length_nil, List.length_take, List.length_drop, List.length_set, List.length_replicate]; omega)⟩)
      | exact Ref.ok_refl _ _
      | (simp only [List.append_nil, List.nil_append, List.map_nil]; first | exact List.nodup_nil | exact nodup_bid1 _ | exact nodup_bid2 (by assumption))
      | ((first | refine fresh_tup ?_ | skip); (repeat (first | exact fresh_datT _ |  exact FreshA.sl _ _ FreshA_bs | exact FreshA.sl _ _ FreshA_is | exact FreshA.nils | exact FreshA.nilp | exact FreshA.int _ _ | exact FreshA.bool _ | exact FreshA.str _ | exact fresh_nil | refine fresh_cons ?_ ?_ | with_reducible refine fresh_aggR ?_ | with_reducible refine fresh_agg ?_ | with_reducible exact fresh_nilA | with_reducible refine fresh_consA ?_ ?_)); done)
      | exact rfl
      | (simp; done)
      ))
      | ((conv => whnf) <;> (first
      | (with_reducible refine and_same ?_)
      | (with_reducible refine and_side ?_ ?_)
      | (with_reducible refine Br.yes rfl ?_)
      | ((with_reducible apply Br.yes) ; (focus omega))
      | ((with_reducible apply Br.no) ; (focus omega))
      | ((with_reducible apply Br.no) ; (focus assumption))
      | ((with_reducible apply Br.yes) ; (focus assumption))
      | ((with_reducible apply Br.yes) ; (focus ((with_reducible refine And.intro ?_ ?_) ; (repeat' (first | with_reducible rfl | exact True.intro | with_reducible refine And.intro ?_ ?_ | omega | assumption)) ; (first | done | fail))))
      | (with_reducible refine Br.mk (fun _ => ?_) (fun _ => ?_))
      | (with_reducible refine Both.mk ?_ ?_)
      | ((with_reducible apply blkAt_intro) ; (focus (first
      | exact rfl
      | ((repeat (first
      | assumption
      | exact get_new
      | exact get_set (by assumption)
      | exact get_set get_new
      | with_reducible apply get_set
      | apply get_set
      | apply get_old
      | (apply get_set_ne; (focus (first | omega | (simp only [newB_length, List.length_set, List.length_append, List.length_singleton, List.length_nil]; omega))))
      )); done)
      )) ; (focus (first | rfl | assumption | omega)) ; (try dsimp only))
      | ((with_reducible apply nthR_dat) ; (focus assumption))
      | ((with_reducible apply nthR_bs1) ; (focus assumption))
      | ((with_reducible apply nthR_is1) ; (focus assumption))
      | ((with_reducible apply appendR_lit) ; (focus (first
      | exact rfl
      | ((repeat (first
      | assumption
      | exact get_new
      | exact get_set (by assumption)
      | exact get_set get_new
      | with_reducible apply get_set
      | apply get_set
      | apply get_old
      | (apply get_set_ne; (focus (first | omega | (simp only [newB_length, List.length_set, List.length_append, List.length_singleton, List.length_nil]; omega))))
      )); done)
      )) ; (focus (first | rfl | assumption)) ; (focus rfl) ; (focus rfl) ; (focus rfl) ; (focus (first | exact Nat.zero_le _ | omega | (simp; done) | (simp; omega))) ; (try dsimp only))
      | (with_reducible refine appendR_nil ?_ ?_)
      | ((with_reducible apply lenR_own) ; (focus assumption))
      | ((with_reducible apply lenR_own) ; (focus (apply Own.upTo ; (focus assumption) ; (repeat (first | exact Gr.refl _ _ | assumption | with_reducible refine Gr.trans ?_ (Gr.boxN _ _ _ _ _) | refine Gr.setNew ?_ (by first | exact Nat.le_refl _ | (simp only [newB_length, List.length_set, List.length_append, List.length_singleton]; omega) | omega) _ | refine Gr.addN ?_ _ | refine Gr.newN ?_ _ _ _ | exact Gr.trans (by assumption) (by assumption) | refine Gr.trans ?_ (by assumption) | refine Gr.trans (by assumption) ?_)) ; (first | done | fail))))
      | ((with_reducible apply rowsR_own) ; (focus assumption))
      | ((with_reducible apply rowsR_own) ; (focus (apply Own.upTo ; (focus assumption) ; (repeat (first | exact Gr.refl _ _ | assumption | with_reducible refine Gr.trans ?_ (Gr.boxN _ _ _ _ _) | refine Gr.setNew ?_ (by first | exact Nat.le_refl _ | (simp only [newB_length, List.length_set, List.length_append, List.length_singleton]; omega) | omega) _ | refine Gr.addN ?_ _ | refine Gr.newN ?_ _ _ _ | exact Gr.trans (by assumption) (by assumption) | refine Gr.trans ?_ (by assumption) | refine Gr.trans (by assumption) ?_)) ; (first | done | fail))))
      | ((with_reducible apply ia_own) ; (focus assumption))
      | ((with_reducible apply ia_own) ; (focus (apply Own.upTo ; (focus assumption) ; (repeat (first | exact Gr.refl _ _ | assumption | with_reducible refine Gr.trans ?_ (Gr.boxN _ _ _ _ _) | refine Gr.setNew ?_ (by first | exact Nat.le_refl _ | (simp only [newB_length, List.length_set, List.length_append, List.length_singleton]; omega) | omega) _ | refine Gr.addN ?_ _ | refine Gr.newN ?_ _ _ _ | exact Gr.trans (by assumption) (by assumption) | refine Gr.trans ?_ (by assumption) | refine Gr.trans (by assumption) ?_)) ; (first | done | fail))))
      | (with_reducible refine ia_sl ?_ ?_)
      | (with_reducible refine IaW.of ?_)
      | (with_reducible refine SliceW.of ?_)
      | ((with_reducible apply AppC.raw) ; (focus assumption))
      | (with_reducible refine AppC.frz ?_)
      | (with_reducible refine EqnW.of ?_)
      | (with_reducible refine CopyW.of ?_)
      | ((with_reducible apply out_own) ; (focus assumption))
      | (with_reducible refine OutW.of ?_)
      | ((with_reducible apply NOut.own) ; (focus assumption))
      | (with_reducible refine NOut.lit ?_)
      | (with_reducible refine nthR_z ?_)
      | ((with_reducible apply nthR_left) ; (focus (first | omega | (simp only [List.length_append, List.length_cons, List.length_nil, List.length_take, List.length_drop, bs_length]; omega))))
      | (with_reducible refine lenR_sl ?_)
      | (with_reducible refine lenR_nils ?_)
      | (with_reducible refine lenR_rsl ?_)
      | (with_reducible refine rowsR_sl ?_)
      | (with_reducible refine rowsR_nils ?_)
      | (with_reducible refine rowsR_rsl ?_)
      | (with_reducible refine lenR_slx ?_)
      | (with_reducible refine rowsR_slx ?_)
      | (with_reducible refine appendR_slx ?_ ?_ ?_)
      | ((with_reducible apply bytesR_intro) ; (focus (first | rfl | (simp only [bs_take, bs_drop, bs_append]; rfl))))
      | ((with_reducible apply nthR_bs) ; (focus (first | omega | (simp only [List.length_append, List.length_cons, List.length_nil, List.length_take, List.length_drop, bs_length]; omega))))
      | (with_reducible intro _)
      ))
      )
    all_goals (conv => whnf)
    all_goals (try dsimp only)
    refine RGet_call t 0 (by omega) (.bs _ _ _) fun H1 hg1 => ?_
    repeat' (first
      | ((with_reducible apply Gr.side) ; with_reducible assumption)
      | ((with_reducible apply Gr.side) ; (repeat (first | exact Gr.refl _ _ | assumption | with_reducible refine Gr.trans ?_ (Gr.boxN _ _ _ _ _) | refine Gr.setNew ?_ (by first | exact Nat.le_refl _ | (simp only [newB_length, List.length_set, List.length_append, List.length_singleton]; omega) | omega) _ | refine Gr.addN ?_ _ | refine Gr.newN ?_ _ _ _ | exact Gr.trans (by assumption) (by assumption) | refine Gr.trans ?_ (by assumption) | refine Gr.trans (by assumption) ?_)) ; (first | done | fail))
      | ((with_reducible refine Side.intro ?_) <;> (first
      | with_reducible rfl
      | omega
      | assumption
      | exact Nat.le_of_ble_eq_true rfl
      | (simp only [bs_length, List.length_append, List.length_cons, List.length_nil, List.length_take, List.length_drop, List.length_set, List.length_replicate]; omega)
      | exact .inl (by omega)
      | exact .inr (.inl ⟨rfl, by (simp only [bs_length, List.length_append, List.length_cons, List.length_nil, List.length_take, List.length_drop, List.length_set, List.length_replicate]; omega)⟩)
      | exact Ref.ok_refl _ _
      | (simp only [List.append_nil, List.nil_append, List.map_nil]; first | exact List.nodup_nil | exact nodup_bid1 _ | exact nodup_bid2 (by assumption))
      | ((first | refine fresh_tup ?_ | skip); (repeat (first | exact fresh_datT _ |  exact FreshA.sl _ _ FreshA_bs | exact FreshA.sl _ _ FreshA_is | exact FreshA.nils | exact FreshA.nilp | exact FreshA.int _ _ | exact FreshA.bool _ | exact FreshA.str _ | exact fresh_nil | refine fresh_cons ?_ ?_ | with_reducible refine fresh_aggR ?_ | with_reducible refine fresh_agg ?_ | with_reducible exact fresh_nilA | with_reducible refine fresh_consA ?_ ?_)); done)
      | exact rfl
      | (simp; done)
      ))
      | ((conv => whnf) <;> (first
      | (with_reducible refine and_same ?_)
      | (with_reducible refine and_side ?_ ?_)
      | (with_reducible refine Br.yes rfl ?_)
      | ((with_reducible apply Br.yes) ; (focus omega))
      | ((with_reducible apply Br.no) ; (focus omega))
      | ((with_reducible apply Br.no) ; (focus assumption))
      | ((with_reducible apply Br.yes) ; (focus assumption))
      | ((with_reducible apply Br.yes) ; (focus ((with_reducible refine And.intro ?_ ?_) ; (repeat' (first | with_reducible rfl | exact True.intro | with_reducible refine And.intro ?_ ?_ | omega | assumption)) ; (first | done | fail))))
      | (with_reducible refine Br.mk (fun _ => ?_) (fun _ => ?_))
      | (with_reducible refine Both.mk ?_ ?_)
      | ((with_reducible apply blkAt_intro) ; (focus (first
      | exact rfl
      | ((repeat (first
      | assumption
      | exact get_new
      | exact get_set (by assumption)
      | exact get_set get_new
      | with_reducible apply get_set
      | apply get_set
      | apply get_old
      | (apply get_set_ne; (focus (first | omega | (simp only [newB_length, List.length_set, List.length_append, List.length_singleton, List.length_nil]; omega))))
      )); done)
      )) ; (focus (first | rfl | assumption | omega)) ; (try dsimp only))
      | ((with_reducible apply nthR_dat) ; (focus assumption))
      | ((with_reducible apply nthR_bs1) ; (focus assumption))
      | ((with_reducible apply nthR_is1) ; (focus assumption))
      | ((with_reducible apply appendR_lit) ; (focus (first
      | exact rfl
      | ((repeat (first
      | assumption
      | exact get_new
      | exact get_set (by assumption)
      | exact get_set get_new
      | with_reducible apply get_set
      | apply get_set
      | apply get_old
      | (apply get_set_ne; (focus (first | omega | (simp only [newB_length, List.length_set, List.length_append, List.length_singleton, List.length_nil]; omega))))
      )); done)
      )) ; (focus (first | rfl | assumption)) ; (focus rfl) ; (focus rfl) ; (focus rfl) ; (focus (first | exact Nat.zero_le _ | omega | (simp; done) | (simp; omega))) ; (try dsimp only))
      | (with_reducible refine appendR_nil ?_ ?_)
      | ((with_reducible apply lenR_own) ; (focus assumption))
      | ((with_reducible apply lenR_own) ; (focus (apply Own.upTo ; (focus assumption) ; (repeat (first | exact Gr.refl _ _ | assumption | with_reducible refine Gr.trans ?_ (Gr.boxN _ _ _ _ _) | refine Gr.setNew ?_ (by first | exact Nat.le_refl _ | (simp only [newB_length, List.length_set, List.length_append, List.length_singleton]; omega) | omega) _ | refine Gr.addN ?_ _ | refine Gr.newN ?_ _ _ _ | exact Gr.trans (by assumption) (by assumption) | refine Gr.trans ?_ (by assumption) | refine Gr.trans (by assumption) ?_)) ; (first | done | fail))))
      | ((with_reducible apply rowsR_own) ; (focus assumption))
      | ((with_reducible apply rowsR_own) ; (focus (apply Own.upTo ; (focus assumption) ; (repeat (first | exact Gr.refl _ _ | assumption | with_reducible refine Gr.trans ?_ (Gr.boxN _ _ _ _ _) | refine Gr.setNew ?_ (by first | exact Nat.le_refl _ | (simp only [newB_length, List.length_set, List.length_append, List.length_singleton]; omega) | omega) _ | refine Gr.addN ?_ _ | refine Gr.newN ?_ _ _ _ | exact Gr.trans (by assumption) (by assumption) | refine Gr.trans ?_ (by assumption) | refine Gr.trans (by assumption) ?_)) ; (first | done | fail))))
      | ((with_reducible apply ia_own) ; (focus assumption))
      | ((with_reducible apply ia_own) ; (focus (apply Own.upTo ; (focus assumption) ; (repeat (first | exact Gr.refl _ _ | assumption | with_reducible refine Gr.trans ?_ (Gr.boxN _ _ _ _ _) | refine Gr.setNew ?_ (by first | exact Nat.le_refl _ | (simp only [newB_length, List.length_set, List.length_append, List.length_singleton]; omega) | omega) _ | refine Gr.addN ?_ _ | refine Gr.newN ?_ _ _ _ | exact Gr.trans (by assumption) (by assumption) | refine Gr.trans ?_ (by assumption) | refine Gr.trans (by assumption) ?_)) ; (first | done | fail))))
      | (with_reducible refine ia_sl ?_ ?_)
      | (with_reducible refine IaW.of ?_)
      | (with_reducible refine SliceW.of ?_)
      | ((with_reducible apply AppC.raw) ; (focus assumption))
      | (with_reducible refine AppC.frz ?_)
      | (with_reducible refine EqnW.of ?_)
      | (with_reducible refine CopyW.of ?_)
      | ((with_reducible apply out_own) ; (focus assumption))
      | (with_reducible refine OutW.of ?_)
      | ((with_reducible apply NOut.own) ; (focus assumption))
      | (with_reducible refine NOut.lit ?_)
      | (with_reducible refine nthR_z ?_)
      | ((with_reducible apply nthR_left) ; (focus (first | omega | (simp only [List.length_append, List.length_cons, List.length_nil, List.length_take, List.length_drop, bs_length]; omega))))
      | (with_reducible refine lenR_sl ?_)
      | (with_reducible refine lenR_nils ?_)
      | (with_reducible refine lenR_rsl ?_)
      | (with_reducible refine rowsR_sl ?_)
      | (with_reducible refine rowsR_nils ?_)
      | (with_reducible refine rowsR_rsl ?_)
      | (with_reducible refine lenR_slx ?_)
      | (with_reducible refine rowsR_slx ?_)
      | (with_reducible refine appendR_slx ?_ ?_ ?_)
      | ((with_reducible apply bytesR_intro) ; (focus (first | rfl | (simp only [bs_take, bs_drop, bs_append]; rfl))))
      | ((with_reducible apply nthR_bs) ; (focus (first | omega | (simp only [List.length_append, List.length_cons, List.length_nil, List.length_take, List.length_drop, bs_length]; omega))))
      | (with_reducible intro _)
      ))
      )
    all_goals (conv => whnf)
    all_goals (try dsimp only)
    refine RGet_call t 1 (by omega) (.bs _ _ _) fun H2 hg2 => ?_
    repeat' (first
      | ((with_reducible apply Gr.side) ; with_reducible assumption)
      | ((with_reducible apply Gr.side) ; (repeat (first | exact Gr.refl _ _ | assumption | with_reducible refine Gr.trans ?_ (Gr.boxN _ _ _ _ _) | refine Gr.setNew ?_ (by first | exact Nat.le_refl _ | (simp only [newB_length, List.length_set, List.length_append, List.length_singleton]; omega) | omega) _ | refine Gr.addN ?_ _ | refine Gr.newN ?_ _ _ _ | exact Gr.trans (by assumption) (by assumption) | refine Gr.trans ?_ (by assumption) | refine Gr.trans (by assumption) ?_)) ; (first | done | fail))
      | ((with_reducible refine Side.intro ?_) <;> (first
      | with_reducible rfl
      | omega
      | assumption
      | exact Nat.le_of_ble_eq_true rfl
      | (simp only [bs_length, List.length_append, List.length_cons, List.length_nil, List.length_take, List.length_drop, List.length_set, List.length_replicate]; omega)
      | exact .inl (by omega)
      | exact .inr (.inl ⟨rfl, by (simp only [bs_length, List.length_append, List.length_cons, List.length_nil, List.length_take, List.length_drop, List.length_set, List.length_replicate]; omega)⟩)
      | exact Ref.ok_refl _ _
      | (simp only [List.append_nil, List.nil_append, List.map_nil]; first | exact List.nodup_nil | exact nodup_bid1 _ | exact nodup_bid2 (by assumption))
      | ((first | refine fresh_tup ?_ | skip); (repeat (first | exact fresh_datT _ |  exact FreshA.sl _ _ FreshA_bs | exact FreshA.sl _ _ FreshA_is | exact FreshA.nils | exact FreshA.nilp | exact FreshA.int _ _ | exact FreshA.bool _ | exact FreshA.str _ | exact fresh_nil | refine fresh_cons ?_ ?_ | with_reducible refine fresh_aggR ?_ | with_reducible refine fresh_agg ?_ | with_reducible exact fresh_nilA | with_reducible refine fresh_consA ?_ ?_)); done)
      | exact rfl
      | (simp; done)
      ))
      | ((conv => whnf) <;> (first
      | (with_reducible refine and_same ?_)
      | (with_reducible refine and_side ?_ ?_)
      | (with_reducible refine Br.yes rfl ?_)
      | ((with_reducible apply Br.yes) ; (focus omega))
      | ((with_reducible apply Br.no) ; (focus omega))
      | ((with_reducible apply Br.no) ; (focus assumption))
      | ((with_reducible apply Br.yes) ; (focus assumption))
      | ((with_reducible apply Br.yes) ; (focus ((with_reducible refine And.intro ?_ ?_) ; (repeat' (first | with_reducible rfl | exact True.intro | with_reducible refine And.intro ?_ ?_ | omega | assumption)) ; (first | done | fail))))
      | (with_reducible refine Br.mk (fun _ => ?_) (fun _ => ?_))
      | (with_reducible refine Both.mk ?_ ?_)
      | ((with_reducible apply blkAt_intro) ; (focus (first
      | exact rfl
      | ((repeat (first
      | assumption
      | exact get_new
      | exact get_set (by assumption)
      | exact get_set get_new
      | with_reducible apply get_set
      | apply get_set
      | apply get_old
      | (apply get_set_ne; (focus (first | omega | (simp only [newB_length, List.length_set, List.length_append, List.length_singleton, List.length_nil]; omega))))
      )); done)
      )) ; (focus (first | rfl | assumption | omega)) ; (try dsimp only))
      | ((with_reducible apply nthR_dat) ; (focus assumption))
      | ((with_reducible apply nthR_bs1) ; (focus assumption))
      | ((with_reducible apply nthR_is1) ; (focus assumption))
      | ((with_reducible apply appendR_lit) ; (focus (first
      | exact rfl
      | ((repeat (first
      | assumption
      | exact get_new
      | exact get_set (by assumption)
      | exact get_set get_new
      | with_reducible apply get_set
      | apply get_set
      | apply get_old
      | (apply get_set_ne; (focus (first | omega | (simp only [newB_length, List.length_set, List.length_append, List.length_singleton, List.length_nil]; omega))))
      )); done)
      )) ; (focus (first | rfl | assumption)) ; (focus rfl) ; (focus rfl) ; (focus rfl) ; (focus (first | exact Nat.zero_le _ | omega | (simp; done) | (simp; omega))) ; (try dsimp only))
      | (with_reducible refine appendR_nil ?_ ?_)
      | ((with_reducible apply lenR_own) ; (focus assumption))
      | ((with_reducible apply lenR_own) ; (focus (apply Own.upTo ; (focus assumption) ; (repeat (first | exact Gr.refl _ _ | assumption | with_reducible refine Gr.trans ?_ (Gr.boxN _ _ _ _ _) | refine Gr.setNew ?_ (by first | exact Nat.le_refl _ | (simp only [newB_length, List.length_set, List.length_append, List.length_singleton]; omega) | omega) _ | refine Gr.addN ?_ _ | refine Gr.newN ?_ _ _ _ | exact Gr.trans (by assumption) (by assumption) | refine Gr.trans ?_ (by assumption) | refine Gr.trans (by assumption) ?_)) ; (first | done | fail))))
      | ((with_reducible apply rowsR_own) ; (focus assumption))
      | ((with_reducible apply rowsR_own) ; (focus (apply Own.upTo ; (focus assumption) ; (repeat (first | exact Gr.refl _ _ | assumption | with_reducible refine Gr.trans ?_ (Gr.boxN _ _ _ _ _) | refine Gr.setNew ?_ (by first | exact Nat.le_refl _ | (simp only [newB_length, List.length_set, List.length_append, List.length_singleton]; omega) | omega) _ | refine Gr.addN ?_ _ | refine Gr.newN ?_ _ _ _ | exact Gr.trans (by assumption) (by assumption) | refine Gr.trans ?_ (by assumption) | refine Gr.trans (by assumption) ?_)) ; (first | done | fail))))
      | ((with_reducible apply ia_own) ; (focus assumption))
      | ((with_reducible apply ia_own) ; (focus (apply Own.upTo ; (focus assumption) ; (repeat (first | exact Gr.refl _ _ | assumption | with_reducible refine Gr.trans ?_ (Gr.boxN _ _ _ _ _) | refine Gr.setNew ?_ (by first | exact Nat.le_refl _ | (simp only [newB_length, List.length_set, List.length_append, List.length_singleton]; omega) | omega) _ | refine Gr.addN ?_ _ | refine Gr.newN ?_ _ _ _ | exact Gr.trans (by assumption) (by assumption) | refine Gr.trans ?_ (by assumption) | refine Gr.trans (by assumption) ?_)) ; (first | done | fail))))
      | (with_reducible refine ia_sl ?_ ?_)
      | (with_reducible refine IaW.of ?_)
      | (with_reducible refine SliceW.of ?_)
      | ((with_reducible apply AppC.raw) ; (focus assumption))
      | (with_reducible refine AppC.frz ?_)
      | (with_reducible refine EqnW.of ?_)
      | (with_reducible refine CopyW.of ?_)
      | ((with_reducible apply out_own) ; (focus assumption))
      | (with_reducible refine OutW.of ?_)
      | ((with_reducible apply NOut.own) ; (focus assumption))
      | (with_reducible refine NOut.lit ?_)
      | (with_reducible refine nthR_z ?_)
      | ((with_reducible apply nthR_left) ; (focus (first | omega | (simp only [List.length_append, List.length_cons, List.length_nil, List.length_take, List.length_drop, bs_length]; omega))))
      | (with_reducible refine lenR_sl ?_)
      | (with_reducible refine lenR_nils ?_)
      | (with_reducible refine lenR_rsl ?_)
      | (with_reducible refine rowsR_sl ?_)
      | (with_reducible refine rowsR_nils ?_)
      | (with_reducible refine rowsR_rsl ?_)
      | (with_reducible refine lenR_slx ?_)
      | (with_reducible refine rowsR_slx ?_)
      | (with_reducible refine appendR_slx ?_ ?_ ?_)
      | ((with_reducible apply bytesR_intro) ; (focus (first | rfl | (simp only [bs_take, bs_drop, bs_append]; rfl))))
      | ((with_reducible apply nthR_bs) ; (focus (first | omega | (simp only [List.length_append, List.length_cons, List.length_nil, List.length_take, List.length_drop, bs_length]; omega))))
      | (with_reducible intro _)
      ))
      )
    all_goals (conv => whnf)
    all_goals (try dsimp only)
    refine RGet_call t 2 (by omega) (.bs _ _ _) fun H3 hg3 => ?_
    repeat' (first
      | ((with_reducible apply Gr.side) ; with_reducible assumption)
      | ((with_reducible apply Gr.side) ; (repeat (first | exact Gr.refl _ _ | assumption | with_reducible refine Gr.trans ?_ (Gr.boxN _ _ _ _ _) | refine Gr.setNew ?_ (by first | exact Nat.le_refl _ | (simp only [newB_length, List.length_set, List.length_append, List.length_singleton]; omega) | omega) _ | refine Gr.addN ?_ _ | refine Gr.newN ?_ _ _ _ | exact Gr.trans (by assumption) (by assumption) | refine Gr.trans ?_ (by assumption) | refine Gr.trans (by assumption) ?_)) ; (first | done | fail))
      | ((with_reducible refine Side.intro ?_) <;> (first
      | with_reducible rfl
      | omega
      | assumption
      | exact Nat.le_of_ble_eq_true rfl
      | (simp only [bs_length, List.length_append, List.length_cons, List.length_nil, List.length_take, List.length_drop, List.length_set, List.length_replicate]; omega)
      | exact .inl (by omega)
      | exact .inr (.inl ⟨rfl, by (simp only [bs_length, List.length_append, List.length_cons, List.length_nil, List.length_take, List.length_drop, List.length_set, List.length_replicate]; omega)⟩)
      | exact Ref.ok_refl _ _
      | (simp only [List.append_nil, List.nil_append, List.map_nil]; first | exact List.nodup_nil | exact nodup_bid1 _ | exact nodup_bid2 (by assumption))
      | ((first | refine fresh_tup ?_ | skip); (repeat (first | exact fresh_datT _ |  exact FreshA.sl _ _ FreshA_bs | exact FreshA.sl _ _ FreshA_is | exact FreshA.nils | exact FreshA.nilp | exact FreshA.int _ _ | exact FreshA.bool _ | exact FreshA.str _ | exact fresh_nil | refine fresh_cons ?_ ?_ | with_reducible refine fresh_aggR ?_ | with_reducible refine fresh_agg ?_ | with_reducible exact fresh_nilA | with_reducible refine fresh_consA ?_ ?_)); done)
      | exact rfl
      | (simp; done)
      ))
      | ((conv => whnf) <;> (first
      | (with_reducible refine and_same ?_)
      | (with_reducible refine and_side ?_ ?_)
      | (with_reducible refine Br.yes rfl ?_)
      | ((with_reducible apply Br.yes) ; (focus omega))
      | ((with_reducible apply Br.no) ; (focus omega))
      | ((with_reducible apply Br.no) ; (focus assumption))
      | ((with_reducible apply Br.yes) ; (focus assumption))
      | ((with_reducible apply Br.yes) ; (focus ((with_reducible refine And.intro ?_ ?_) ; (repeat' (first | with_reducible rfl | exact True.intro | with_reducible refine And.intro ?_ ?_ | omega | assumption)) ; (first | done | fail))))
      | (with_reducible refine Br.mk (fun _ => ?_) (fun _ => ?_))
      | (with_reducible refine Both.mk ?_ ?_)
      | ((with_reducible apply blkAt_intro) ; (focus (first
      | exact rfl
      | ((repeat (first
      | assumption
      | exact get_new
      | exact get_set (by assumption)
      | exact get_set get_new
      | with_reducible apply get_set
      | apply get_set
      | apply get_old
      | (apply get_set_ne; (focus (first | omega | (simp only [newB_length, List.length_set, List.length_append, List.length_singleton, List.length_nil]; omega))))
      )); done)
      )) ; (focus (first | rfl | assumption | omega)) ; (try dsimp only))
      | ((with_reducible apply nthR_dat) ; (focus assumption))
      | ((with_reducible apply nthR_bs1) ; (focus assumption))
      | ((with_reducible apply nthR_is1) ; (focus assumption))
      | ((with_reducible apply appendR_lit) ; (focus (first
      | exact rfl
      | ((repeat (first
      | assumption
      | exact get_new
      | exact get_set (by assumption)
      | exact get_set get_new
      | with_reducible apply get_set
      | apply get_set
      | apply get_old
      | (apply get_set_ne; (focus (first | omega | (simp only [newB_length, List.length_set, List.length_append, List.length_singleton, List.length_nil]; omega))))
      )); done)
      )) ; (focus (first | rfl | assumption)) ; (focus rfl) ; (focus rfl) ; (focus rfl) ; (focus (first | exact Nat.zero_le _ | omega | (simp; done) | (simp; omega))) ; (try dsimp only))
      | (with_reducible refine appendR_nil ?_ ?_)
      | ((with_reducible apply lenR_own) ; (focus assumption))
      | ((with_reducible apply lenR_own) ; (focus (apply Own.upTo ; (focus assumption) ; (repeat (first | exact Gr.refl _ _ | assumption | with_reducible refine Gr.trans ?_ (Gr.boxN _ _ _ _ _) | refine Gr.setNew ?_ (by first | exact Nat.le_refl _ | (simp only [newB_length, List.length_set, List.length_append, List.length_singleton]; omega) | omega) _ | refine Gr.addN ?_ _ | refine Gr.newN ?_ _ _ _ | exact Gr.trans (by assumption) (by assumption) | refine Gr.trans ?_ (by assumption) | refine Gr.trans (by assumption) ?_)) ; (first | done | fail))))
      | ((with_reducible apply rowsR_own) ; (focus assumption))
      | ((with_reducible apply rowsR_own) ; (focus (apply Own.upTo ; (focus assumption) ; (repeat (first | exact Gr.refl _ _ | assumption | with_reducible refine Gr.trans ?_ (Gr.boxN _ _ _ _ _) | refine Gr.setNew ?_ (by first | exact Nat.le_refl _ | (simp only [newB_length, List.length_set, List.length_append, List.length_singleton]; omega) | omega) _ | refine Gr.addN ?_ _ | refine Gr.newN ?_ _ _ _ | exact Gr.trans (by assumption) (by assumption) | refine Gr.trans ?_ (by assumption) | refine Gr.trans (by assumption) ?_)) ; (first | done | fail))))
      | ((with_reducible apply ia_own) ; (focus assumption))
      | ((with_reducible apply ia_own) ; (focus (apply Own.upTo ; (focus assumption) ; (repeat (first | exact Gr.refl _ _ | assumption | with_reducible refine Gr.trans ?_ (Gr.boxN _ _ _ _ _) | refine Gr.setNew ?_ (by first | exact Nat.le_refl _ | (simp only [newB_length, List.length_set, List.length_append, List.length_singleton]; omega) | omega) _ | refine Gr.addN ?_ _ | refine Gr.newN ?_ _ _ _ | exact Gr.trans (by assumption) (by assumption) | refine Gr.trans ?_ (by assumption) | refine Gr.trans (by assumption) ?_)) ; (first | done | fail))))
      | (with_reducible refine ia_sl ?_ ?_)
      | (with_reducible refine IaW.of ?_)
      | (with_reducible refine SliceW.of ?_)
      | ((with_reducible apply AppC.raw) ; (focus assumption))
      | (with_reducible refine AppC.frz ?_)
      | (with_reducible refine EqnW.of ?_)
      | (with_reducible refine CopyW.of ?_)
      | ((with_reducible apply out_own) ; (focus assumption))
      | (with_reducible refine OutW.of ?_)
      | ((with_reducible apply NOut.own) ; (focus assumption))
      | (with_reducible refine NOut.lit ?_)
      | (with_reducible refine nthR_z ?_)
      | ((with_reducible apply nthR_left) ; (focus (first | omega | (simp only [List.length_append, List.length_cons, List.length_nil, List.length_take, List.length_drop, bs_length]; omega))))
      | (with_reducible refine lenR_sl ?_)
      | (with_reducible refine lenR_nils ?_)
      | (with_reducible refine lenR_rsl ?_)
      | (with_reducible refine rowsR_sl ?_)
      | (with_reducible refine rowsR_nils ?_)
      | (with_reducible refine rowsR_rsl ?_)
      | (with_reducible refine lenR_slx ?_)
      | (with_reducible refine rowsR_slx ?_)
      | (with_reducible refine appendR_slx ?_ ?_ ?_)
      | ((with_reducible apply bytesR_intro) ; (focus (first | rfl | (simp only [bs_take, bs_drop, bs_append]; rfl))))
      | ((with_reducible apply nthR_bs) ; (focus (first | omega | (simp only [List.length_append, List.length_cons, List.length_nil, List.length_take, List.length_drop, bs_length]; omega))))
      | (with_reducible intro _)
      ))
      )
    all_goals (conv => whnf)
    all_goals (try dsimp only)
    refine RGet_call t 3 (by omega) (.bs _ _ _) fun H4 hg4 => ?_
    repeat' (first
      | ((with_reducible apply Gr.side) ; with_reducible assumption)
      | ((with_reducible apply Gr.side) ; (repeat (first | exact Gr.refl _ _ | assumption | with_reducible refine Gr.trans ?_ (Gr.boxN _ _ _ _ _) | refine Gr.setNew ?_ (by first | exact Nat.le_refl _ | (simp only [newB_length, List.length_set, List.length_append, List.length_singleton]; omega) | omega) _ | refine Gr.addN ?_ _ | refine Gr.newN ?_ _ _ _ | exact Gr.trans (by assumption) (by assumption) | refine Gr.trans ?_ (by assumption) | refine Gr.trans (by assumption) ?_)) ; (first | done | fail))
      | ((with_reducible refine Side.intro ?_) <;> (first
      | with_reducible rfl
      | omega
      | assumption
      | exact Nat.le_of_ble_eq_true rfl
      | (simp only [bs_length, List.length_append, List.length_cons, List.length_nil, List.length_take, List.length_drop, List.length_set, List.length_replicate]; omega)
      | exact .inl (by omega)
      | exact .inr (.inl ⟨rfl, by (simp only [bs_length, List.length_append, List.length_cons, List.length_nil, List.length_take, List.length_drop, List.length_set, List.length_replicate]; omega)⟩)
      | exact Ref.ok_refl _ _
      | (simp only [List.append_nil, List.nil_append, List.map_nil]; first | exact List.nodup_nil | exact nodup_bid1 _ | exact nodup_bid2 (by assumption))
      | ((first | refine fresh_tup ?_ | skip); (repeat (first | exact fresh_datT _ |  exact FreshA.sl _ _ FreshA_bs | exact FreshA.sl _ _ FreshA_is | exact FreshA.nils | exact FreshA.nilp | exact FreshA.int _ _ | exact FreshA.bool _ | exact FreshA.str _ | exact fresh_nil | refine fresh_cons ?_ ?_ | with_reducible refine fresh_aggR ?_ | with_reducible refine fresh_agg ?_ | with_reducible exact fresh_nilA | with_reducible refine fresh_consA ?_ ?_)); done)
      | exact rfl
      | (simp; done)
      ))
      | ((conv => whnf) <;> (first
      | (with_reducible refine and_same ?_)
      | (with_reducible refine and_side ?_ ?_)
      | (with_reducible refine Br.yes rfl ?_)
      | ((with_reducible apply Br.yes) ; (focus omega))
      | ((with_reducible apply Br.no) ; (focus omega))
      | ((with_reducible apply Br.no) ; (focus assumption))
      | ((with_reducible apply Br.yes) ; (focus assumption))
      | ((with_reducible apply Br.yes) ; (focus ((with_reducible refine And.intro ?_ ?_) ; (repeat' (first | with_reducible rfl | exact True.intro | with_reducible refine And.intro ?_ ?_ | omega | assumption)) ; (first | done | fail))))
      | (with_reducible refine Br.mk (fun _ => ?_) (fun _ => ?_))
      | (with_reducible refine Both.mk ?_ ?_)
      | ((with_reducible apply blkAt_intro) ; (focus (first
      | exact rfl
      | ((repeat (first
      | assumption
      | exact get_new
      | exact get_set (by assumption)
      | exact get_set get_new
      | with_reducible apply get_set
      | apply get_set
      | apply get_old
      | (apply get_set_ne; (focus (first | omega | (simp only [newB_length, List.length_set, List.length_append, List.length_singleton, List.length_nil]; omega))))
      )); done)
      )) ; (focus (first | rfl | assumption | omega)) ; (try dsimp only))
      | ((with_reducible apply nthR_dat) ; (focus assumption))
      | ((with_reducible apply nthR_bs1) ; (focus assumption))
      | ((with_reducible apply nthR_is1) ; (focus assumption))
      | ((with_reducible apply appendR_lit) ; (focus (first
      | exact rfl
      | ((repeat (first
      | assumption
      | exact get_new
      | exact get_set (by assumption)
      | exact get_set get_new
      | with_reducible apply get_set
      | apply get_set
      | apply get_old
      | (apply get_set_ne; (focus (first | omega | (simp only [newB_length, List.length_set, List.length_append, List.length_singleton, List.length_nil]; omega))))
      )); done)
      )) ; (focus (first | rfl | assumption)) ; (focus rfl) ; (focus rfl) ; (focus rfl) ; (focus (first | exact Nat.zero_le _ | omega | (simp; done) | (simp; omega))) ; (try dsimp only))
      | (with_reducible refine appendR_nil ?_ ?_)
      | ((with_reducible apply lenR_own) ; (focus assumption))
      | ((with_reducible apply lenR_own) ; (focus (apply Own.upTo ; (focus assumption) ; (repeat (first | exact Gr.refl _ _ | assumption | with_reducible refine Gr.trans ?_ (Gr.boxN _ _ _ _ _) | refine Gr.setNew ?_ (by first | exact Nat.le_refl _ | (simp only [newB_length, List.length_set, List.length_append, List.length_singleton]; omega) | omega) _ | refine Gr.addN ?_ _ | refine Gr.newN ?_ _ _ _ | exact Gr.trans (by assumption) (by assumption) | refine Gr.trans ?_ (by assumption) | refine Gr.trans (by assumption) ?_)) ; (first | done | fail))))
      | ((with_reducible apply rowsR_own) ; (focus assumption))
      | ((with_reducible apply rowsR_own) ; (focus (apply Own.upTo ; (focus assumption) ; (repeat (first | exact Gr.refl _ _ | assumption | with_reducible refine Gr.trans ?_ (Gr.boxN _ _ _ _ _) | refine Gr.setNew ?_ (by first | exact Nat.le_refl _ | (simp only [newB_length, List.length_set, List.length_append, List.length_singleton]; omega) | omega) _ | refine Gr.addN ?_ _ | refine Gr.newN ?_ _ _ _ | exact Gr.trans (by assumption) (by assumption) | refine Gr.trans ?_ (by assumption) | refine Gr.trans (by assumption) ?_)) ; (first | done | fail))))
      | ((with_reducible apply ia_own) ; (focus assumption))
      | ((with_reducible apply ia_own) ; (focus (apply Own.upTo ; (focus assumption) ; (repeat (first | exact Gr.refl _ _ | assumption | with_reducible refine Gr.trans ?_ (Gr.boxN _ _ _ _ _) | refine Gr.setNew ?_ (by first | exact Nat.le_refl _ | (simp only [newB_length, List.length_set, List.length_append, List.length_singleton]; omega) | omega) _ | refine Gr.addN ?_ _ | refine Gr.newN ?_ _ _ _ | exact Gr.trans (by assumption) (by assumption) | refine Gr.trans ?_ (by assumption) | refine Gr.trans (by assumption) ?_)) ; (first | done | fail))))
      | (with_reducible refine ia_sl ?_ ?_)
      | (with_reducible refine IaW.of ?_)
      | (with_reducible refine SliceW.of ?_)
      | ((with_reducible apply AppC.raw) ; (focus assumption))
      | (with_reducible refine AppC.frz ?_)
      | (with_reducible refine EqnW.of ?_)
      | (with_reducible refine CopyW.of ?_)
      | ((with_reducible apply out_own) ; (focus assumption))
      | (with_reducible refine OutW.of ?_)
      | ((with_reducible apply NOut.own) ; (focus assumption))
      | (with_reducible refine NOut.lit ?_)
      | (with_reducible refine nthR_z ?_)
      | ((with_reducible apply nthR_left) ; (focus (first | omega | (simp only [List.length_append, List.length_cons, List.length_nil, List.length_take, List.length_drop, bs_length]; omega))))
      | (with_reducible refine lenR_sl ?_)
      | (with_reducible refine lenR_nils ?_)
      | (with_reducible refine lenR_rsl ?_)
      | (with_reducible refine rowsR_sl ?_)
      | (with_reducible refine rowsR_nils ?_)
      | (with_reducible refine rowsR_rsl ?_)
      | (with_reducible refine lenR_slx ?_)
      | (with_reducible refine rowsR_slx ?_)
      | (with_reducible refine appendR_slx ?_ ?_ ?_)
      | ((with_reducible apply bytesR_intro) ; (focus (first | rfl | (simp only [bs_take, bs_drop, bs_append]; rfl))))
      | ((with_reducible apply nthR_bs) ; (focus (first | omega | (simp only [List.length_append, List.length_cons, List.length_nil, List.length_take, List.length_drop, bs_length]; omega))))
      | (with_reducible intro _)
      ))
      )
    all_goals (conv => whnf)
    all_goals (try dsimp only)
    refine RCells_call (rof t) fun H5 hg5 => ?_
    repeat' (first
      | ((with_reducible apply Gr.side) ; with_reducible assumption)
      | ((with_reducible apply Gr.side) ; (repeat (first | exact Gr.refl _ _ | assumption | with_reducible refine Gr.trans ?_ (Gr.boxN _ _ _ _ _) | refine Gr.setNew ?_ (by first | exact Nat.le_refl _ | (simp only [newB_length, List.length_set, List.length_append, List.length_singleton]; omega) | omega) _ | refine Gr.addN ?_ _ | refine Gr.newN ?_ _ _ _ | exact Gr.trans (by assumption) (by assumption) | refine Gr.trans ?_ (by assumption) | refine Gr.trans (by assumption) ?_)) ; (first | done | fail))
      | ((with_reducible refine Side.intro ?_) <;> (first
      | with_reducible rfl
      | omega
      | assumption
      | exact Nat.le_of_ble_eq_true rfl
      | (simp only [bs_length, List.length_append, List.length_cons, List.length_nil, List.length_take, List.length_drop, List.length_set, List.length_replicate]; omega)
      | exact .inl (by omega)
      | exact .inr (.inl ⟨rfl, by (simp only [bs_length, List.length_append, List.length_cons, List.length_nil, List.length_take, List.length_drop, List.length_set, List.length_replicate]; omega)⟩)
      | exact Ref.ok_refl _ _
      | (simp only [List.append_nil, List.nil_append, List.map_nil]; first | exact List.nodup_nil | exact nodup_bid1 _ | exact nodup_bid2 (by assumption))
      | ((first | refine fresh_tup ?_ | skip); (repeat (first | exact fresh_datT _ |  exact FreshA.sl _ _ FreshA_bs | exact FreshA.sl _ _ FreshA_is | exact FreshA.nils | exact FreshA.nilp | exact FreshA.int _ _ | exact FreshA.bool _ | exact FreshA.str _ | exact fresh_nil | refine fresh_cons ?_ ?_ | with_reducible refine fresh_aggR ?_ | with_reducible refine fresh_agg ?_ | with_reducible exact fresh_nilA | with_reducible refine fresh_consA ?_ ?_)); done)
      | exact rfl
      | (simp; done)
      ))
      | ((conv => whnf) <;> (first
      | (with_reducible refine and_same ?_)
      | (with_reducible refine and_side ?_ ?_)
      | (with_reducible refine Br.yes rfl ?_)
      | ((with_reducible apply Br.yes) ; (focus omega))
      | ((with_reducible apply Br.no) ; (focus omega))
      | ((with_reducible apply Br.no) ; (focus assumption))
      | ((with_reducible apply Br.yes) ; (focus assumption))
      | ((with_reducible apply Br.yes) ; (focus ((with_reducible refine And.intro ?_ ?_) ; (repeat' (first | with_reducible rfl | exact True.intro | with_reducible refine And.intro ?_ ?_ | omega | assumption)) ; (first | done | fail))))
      | (with_reducible refine Br.mk (fun _ => ?_) (fun _ => ?_))
      | (with_reducible refine Both.mk ?_ ?_)
      | ((with_reducible apply blkAt_intro) ; (focus (first
      | exact rfl
      | ((repeat (first
      | assumption
      | exact get_new
      | exact get_set (by assumption)
      | exact get_set get_new
      | with_reducible apply get_set
      | apply get_set
      | apply get_old
      | (apply get_set_ne; (focus (first | omega | (simp only [newB_length, List.length_set, List.length_append, List.length_singleton, List.length_nil]; omega))))
      )); done)
      )) ; (focus (first | rfl | assumption | omega)) ; (try dsimp only))
      | ((with_reducible apply nthR_dat) ; (focus assumption))
      | ((with_reducible apply nthR_bs1) ; (focus assumption))
      | ((with_reducible apply nthR_is1) ; (focus assumption))
      | ((with_reducible apply appendR_lit) ; (focus (first
      | exact rfl
      | ((repeat (first
      | assumption
      | exact get_new
      | exact get_set (by assumption)
      | exact get_set get_new
      | with_reducible apply get_set
      | apply get_set
      | apply get_old
      | (apply get_set_ne; (focus (first | omega | (simp only [newB_length, List.length_set, List.length_append, List.length_singleton, List.length_nil]; omega))))
      )); done)
      )) ; (focus (first | rfl | assumption)) ; (focus rfl) ; (focus rfl) ; (focus rfl) ; (focus (first | exact Nat.zero_le _ | omega | (simp; done) | (simp; omega))) ; (try dsimp only))
      | (with_reducible refine appendR_nil ?_ ?_)
      | ((with_reducible apply lenR_own) ; (focus assumption))
      | ((with_reducible apply lenR_own) ; (focus (apply Own.upTo ; (focus assumption) ; (repeat (first | exact Gr.refl _ _ | assumption | with_reducible refine Gr.trans ?_ (Gr.boxN _ _ _ _ _) | refine Gr.setNew ?_ (by first | exact Nat.le_refl _ | (simp only [newB_length, List.length_set, List.length_append, List.length_singleton]; omega) | omega) _ | refine Gr.addN ?_ _ | refine Gr.newN ?_ _ _ _ | exact Gr.trans (by assumption) (by assumption) | refine Gr.trans ?_ (by assumption) | refine Gr.trans (by assumption) ?_)) ; (first | done | fail))))
      | ((with_reducible apply rowsR_own) ; (focus assumption))
      | ((with_reducible apply rowsR_own) ; (focus (apply Own.upTo ; (focus assumption) ; (repeat (first | exact Gr.refl _ _ | assumption | with_reducible refine Gr.trans ?_ (Gr.boxN _ _ _ _ _) | refine Gr.setNew ?_ (by first | exact Nat.le_refl _ | (simp only [newB_length, List.length_set, List.length_append, List.length_singleton]; omega) | omega) _ | refine Gr.addN ?_ _ | refine Gr.newN ?_ _ _ _ | exact Gr.trans (by assumption) (by assumption) | refine Gr.trans ?_ (by assumption) | refine Gr.trans (by assumption) ?_)) ; (first | done | fail))))
      | ((with_reducible apply ia_own) ; (focus assumption))
      | ((with_reducible apply ia_own) ; (focus (apply Own.upTo ; (focus assumption) ; (repeat (first | exact Gr.refl _ _ | assumption | with_reducible refine Gr.trans ?_ (Gr.boxN _ _ _ _ _) | refine Gr.setNew ?_ (by first | exact Nat.le_refl _ | (simp only [newB_length, List.length_set, List.length_append, List.length_singleton]; omega) | omega) _ | refine Gr.addN ?_ _ | refine Gr.newN ?_ _ _ _ | exact Gr.trans (by assumption) (by assumption) | refine Gr.trans ?_ (by assumption) | refine Gr.trans (by assumption) ?_)) ; (first | done | fail))))
      | (with_reducible refine ia_sl ?_ ?_)
      | (with_reducible refine IaW.of ?_)
      | (with_reducible refine SliceW.of ?_)
      | ((with_reducible apply AppC.raw) ; (focus assumption))
      | (with_reducible refine AppC.frz ?_)
      | (with_reducible refine EqnW.of ?_)
      | (with_reducible refine CopyW.of ?_)
      | ((with_reducible apply out_own) ; (focus assumption))
      | (with_reducible refine OutW.of ?_)
      | ((with_reducible apply NOut.own) ; (focus assumption))
      | (with_reducible refine NOut.lit ?_)
      | (with_reducible refine nthR_z ?_)
      | ((with_reducible apply nthR_left) ; (focus (first | omega | (simp only [List.length_append, List.length_cons, List.length_nil, List.length_take, List.length_drop, bs_length]; omega))))
      | (with_reducible refine lenR_sl ?_)
      | (with_reducible refine lenR_nils ?_)
      | (with_reducible refine lenR_rsl ?_)
      | (with_reducible refine rowsR_sl ?_)
      | (with_reducible refine rowsR_nils ?_)
      | (with_reducible refine rowsR_rsl ?_)
      | (with_reducible refine lenR_slx ?_)
      | (with_reducible refine rowsR_slx ?_)
      | (with_reducible refine appendR_slx ?_ ?_ ?_)
      | ((with_reducible apply bytesR_intro) ; (focus (first | rfl | (simp only [bs_take, bs_drop, bs_append]; rfl))))
      | ((with_reducible apply nthR_bs) ; (focus (first | omega | (simp only [List.length_append, List.length_cons, List.length_nil, List.length_take, List.length_drop, bs_length]; omega))))
      | (with_reducible intro _)
      ))
      )
    all_goals (conv => whnf)
    all_goals (try dsimp only)
    refine RWords_call (rof t) fun H6 hg6 => ?_
    have hcb := cn_bd (rof t)
    repeat' (first
      | ((with_reducible apply Gr.side) ; with_reducible assumption)
      | ((with_reducible apply Gr.side) ; (repeat (first | exact Gr.refl _ _ | assumption | with_reducible refine Gr.trans ?_ (Gr.boxN _ _ _ _ _) | refine Gr.setNew ?_ (by first | exact Nat.le_refl _ | (simp only [newB_length, List.length_set, List.length_append, List.length_singleton]; omega) | omega) _ | refine Gr.addN ?_ _ | refine Gr.newN ?_ _ _ _ | exact Gr.trans (by assumption) (by assumption) | refine Gr.trans ?_ (by assumption) | refine Gr.trans (by assumption) ?_)) ; (first | done | fail))
      | ((with_reducible refine Side.intro ?_) <;> (first
      | with_reducible rfl
      | omega
      | assumption
      | exact Nat.le_of_ble_eq_true rfl
      | (simp only [bs_length, List.length_append, List.length_cons, List.length_nil, List.length_take, List.length_drop, List.length_set, List.length_replicate]; omega)
      | exact .inl (by omega)
      | exact .inr (.inl ⟨rfl, by (simp only [bs_length, List.length_append, List.length_cons, List.length_nil, List.length_take, List.length_drop, List.length_set, List.length_replicate]; omega)⟩)
      | exact Ref.ok_refl _ _
      | (simp only [List.append_nil, List.nil_append, List.map_nil]; first | exact List.nodup_nil | exact nodup_bid1 _ | exact nodup_bid2 (by assumption))
      | ((first | refine fresh_tup ?_ | skip); (repeat (first | exact fresh_datT _ |  exact FreshA.sl _ _ FreshA_bs | exact FreshA.sl _ _ FreshA_is | exact FreshA.nils | exact FreshA.nilp | exact FreshA.int _ _ | exact FreshA.bool _ | exact FreshA.str _ | exact fresh_nil | refine fresh_cons ?_ ?_ | with_reducible refine fresh_aggR ?_ | with_reducible refine fresh_agg ?_ | with_reducible exact fresh_nilA | with_reducible refine fresh_consA ?_ ?_)); done)
      | exact rfl
      | (simp; done)
      ))
      | ((conv => whnf) <;> (first
      | (with_reducible refine and_same ?_)
      | (with_reducible refine and_side ?_ ?_)
      | (with_reducible refine Br.yes rfl ?_)
      | ((with_reducible apply Br.yes) ; (focus omega))
      | ((with_reducible apply Br.no) ; (focus omega))
      | ((with_reducible apply Br.no) ; (focus assumption))
      | ((with_reducible apply Br.yes) ; (focus assumption))
      | ((with_reducible apply Br.yes) ; (focus ((with_reducible refine And.intro ?_ ?_) ; (repeat' (first | with_reducible rfl | exact True.intro | with_reducible refine And.intro ?_ ?_ | omega | assumption)) ; (first | done | fail))))
      | (with_reducible refine Br.mk (fun _ => ?_) (fun _ => ?_))
      | (with_reducible refine Both.mk ?_ ?_)
      | ((with_reducible apply blkAt_intro) ; (focus (first
      | exact rfl
      | ((repeat (first
      | assumption
      | exact get_new
      | exact get_set (by assumption)
      | exact get_set get_new
      | with_reducible apply get_set
      | apply get_set
      | apply get_old
      | (apply get_set_ne; (focus (first | omega | (simp only [newB_length, List.length_set, List.length_append, List.length_singleton, List.length_nil]; omega))))
      )); done)
      )) ; (focus (first | rfl | assumption | omega)) ; (try dsimp only))
      | ((with_reducible apply nthR_dat) ; (focus assumption))
      | ((with_reducible apply nthR_bs1) ; (focus assumption))
      | ((with_reducible apply nthR_is1) ; (focus assumption))
      | ((with_reducible apply appendR_lit) ; (focus (first
      | exact rfl
      | ((repeat (first
      | assumption
      | exact get_new
      | exact get_set (by assumption)
      | exact get_set get_new
      | with_reducible apply get_set
      | apply get_set
      | apply get_old
      | (apply get_set_ne; (focus (first | omega | (simp only [newB_length, List.length_set, List.length_append, List.length_singleton, List.length_nil]; omega))))
      )); done)
      )) ; (focus (first | rfl | assumption)) ; (focus rfl) ; (focus rfl) ; (focus rfl) ; (focus (first | exact Nat.zero_le _ | omega | (simp; done) | (simp; omega))) ; (try dsimp only))
      | (with_reducible refine appendR_nil ?_ ?_)
      | ((with_reducible apply lenR_own) ; (focus assumption))
      | ((with_reducible apply lenR_own) ; (focus (apply Own.upTo ; (focus assumption) ; (repeat (first | exact Gr.refl _ _ | assumption | with_reducible refine Gr.trans ?_ (Gr.boxN _ _ _ _ _) | refine Gr.setNew ?_ (by first | exact Nat.le_refl _ | (simp only [newB_length, List.length_set, List.length_append, List.length_singleton]; omega) | omega) _ | refine Gr.addN ?_ _ | refine Gr.newN ?_ _ _ _ | exact Gr.trans (by assumption) (by assumption) | refine Gr.trans ?_ (by assumption) | refine Gr.trans (by assumption) ?_)) ; (first | done | fail))))
      | ((with_reducible apply rowsR_own) ; (focus assumption))
      | ((with_reducible apply rowsR_own) ; (focus (apply Own.upTo ; (focus assumption) ; (repeat (first | exact Gr.refl _ _ | assumption | with_reducible refine Gr.trans ?_ (Gr.boxN _ _ _ _ _) | refine Gr.setNew ?_ (by first | exact Nat.le_refl _ | (simp only [newB_length, List.length_set, List.length_append, List.length_singleton]; omega) | omega) _ | refine Gr.addN ?_ _ | refine Gr.newN ?_ _ _ _ | exact Gr.trans (by assumption) (by assumption) | refine Gr.trans ?_ (by assumption) | refine Gr.trans (by assumption) ?_)) ; (first | done | fail))))
      | ((with_reducible apply ia_own) ; (focus assumption))
      | ((with_reducible apply ia_own) ; (focus (apply Own.upTo ; (focus assumption) ; (repeat (first | exact Gr.refl _ _ | assumption | with_reducible refine Gr.trans ?_ (Gr.boxN _ _ _ _ _) | refine Gr.setNew ?_ (by first | exact Nat.le_refl _ | (simp only [newB_length, List.length_set, List.length_append, List.length_singleton]; omega) | omega) _ | refine Gr.addN ?_ _ | refine Gr.newN ?_ _ _ _ | exact Gr.trans (by assumption) (by assumption) | refine Gr.trans ?_ (by assumption) | refine Gr.trans (by assumption) ?_)) ; (first | done | fail))))
      | (with_reducible refine ia_sl ?_ ?_)
      | (with_reducible refine IaW.of ?_)
      | (with_reducible refine SliceW.of ?_)
      | ((with_reducible apply AppC.raw) ; (focus assumption))
      | (with_reducible refine AppC.frz ?_)
      | (with_reducible refine EqnW.of ?_)
      | (with_reducible refine CopyW.of ?_)
      | ((with_reducible apply out_own) ; (focus assumption))
      | (with_reducible refine OutW.of ?_)
      | ((with_reducible apply NOut.own) ; (focus assumption))
      | (with_reducible refine NOut.lit ?_)
      | (with_reducible refine nthR_z ?_)
      | ((with_reducible apply nthR_left) ; (focus (first | omega | (simp only [List.length_append, List.length_cons, List.length_nil, List.length_take, List.length_drop, bs_length]; omega))))
      | (with_reducible refine lenR_sl ?_)
      | (with_reducible refine lenR_nils ?_)
      | (with_reducible refine lenR_rsl ?_)
      | (with_reducible refine rowsR_sl ?_)
      | (with_reducible refine rowsR_nils ?_)
      | (with_reducible refine rowsR_rsl ?_)
      | (with_reducible refine lenR_slx ?_)
      | (with_reducible refine rowsR_slx ?_)
      | (with_reducible refine appendR_slx ?_ ?_ ?_)
      | ((with_reducible apply bytesR_intro) ; (focus (first | rfl | (simp only [bs_take, bs_drop, bs_append]; rfl))))
      | ((with_reducible apply nthR_bs) ; (focus (first | omega | (simp only [List.length_append, List.length_cons, List.length_nil, List.length_take, List.length_drop, bs_length]; omega))))
      | (with_reducible intro _)
      ))
      )
    all_goals (conv => whnf)
    all_goals (try dsimp only)
    refine loop_at (α := Nat × AH × AV × AV) (fun a => [(20, a.2.2.1), (21, a.2.2.2), (22, .int .i64 a.1)]) (fun a => a.2.1) (fun a => a.1 ≤ (cn (rof t)).toNat ∧ Own a.2.1 1 a.2.2.1 (is (rcI (rbit t) a.1)) ∧ Own a.2.1 1 a.2.2.2 (datT (rdD (rof t) t (rbit t) a.1)) ∧ (a.2.2.1.bid = none ∨ a.2.2.1.bid ≠ a.2.2.2.bid)) (fun a => (cn (rof t)).toNat - a.1) (0, H6, .nils, .nils) ⟨by dsimp only; omega, Own.nil _ _, Own.nil _ _, .inl rfl⟩ rfl rfl ?_
    rintro ⟨k, σ, ca, da⟩ ⟨hk, hca, hda, hdj⟩
    dsimp only at hk hca hda hdj ⊢
    by_cases hlt : k < (cn (rof t)).toNat
    · have e := shr_bitq (b := getV t 1) (k := k) (by omega)
      have hce := ce_of hlt
      obtain ⟨x1, x2, x3⟩ := cof_bd hce
      have hlc := rcs_len (rbit t) k
      have hil : (is (rcI (rbit t) k)).length ≤ k := by rw [is_length, rcI, List.length_map]; exact hlc
      have hdl : (datT (rdD (rof t) t (rbit t) k)).length ≤ k := by rw [datT_length, rdD, List.length_map]; exact hlc
      have eV : ceV (rof t) (k : Int) = 4 + (k : Int) * cw (rof t) := by rw [ceV, hce, if_pos rfl]
      obtain ⟨q, hsh, hq⟩ := e
      by_cases hbit : q % 2 = 1
      · have hb1 : bitB (rbit t) k = true := decide_eq_true (by rw [hq] at hbit; exact hbit)
        repeat' (first
          | ((with_reducible apply Gr.side) ; with_reducible assumption)
          | ((with_reducible apply Gr.side) ; (repeat (first | exact Gr.refl _ _ | assumption | with_reducible refine Gr.trans ?_ (Gr.boxN _ _ _ _ _) | refine Gr.setNew ?_ (by first | exact Nat.le_refl _ | (simp only [newB_length, List.length_set, List.length_append, List.length_singleton]; omega) | omega) _ | refine Gr.addN ?_ _ | refine Gr.newN ?_ _ _ _ | exact Gr.trans (by assumption) (by assumption) | refine Gr.trans ?_ (by assumption) | refine Gr.trans (by assumption) ?_)) ; (first | done | fail))
          | ((with_reducible refine Side.intro ?_) <;> (first
          | with_reducible rfl
          | omega
          | assumption
          | exact Nat.le_of_ble_eq_true rfl
          | (simp only [bs_length, List.length_append, List.length_cons, List.length_nil, List.length_take, List.length_drop, List.length_set, List.length_replicate]; omega)
          | exact .inl (by omega)
          | exact .inr (.inl ⟨rfl, by (simp only [bs_length, List.length_append, List.length_cons, List.length_nil, List.length_take, List.length_drop, List.length_set, List.length_replicate]; omega)⟩)
          | exact Ref.ok_refl _ _
          | (simp only [List.append_nil, List.nil_append, List.map_nil]; first | exact List.nodup_nil | exact nodup_bid1 _ | exact nodup_bid2 (by assumption))
          | ((first | refine fresh_tup ?_ | skip); (repeat (first | exact fresh_datT _ |  exact FreshA.sl _ _ FreshA_bs | exact FreshA.sl _ _ FreshA_is | exact FreshA.nils | exact FreshA.nilp | exact FreshA.int _ _ | exact FreshA.bool _ | exact FreshA.str _ | exact fresh_nil | refine fresh_cons ?_ ?_ | with_reducible refine fresh_aggR ?_ | with_reducible refine fresh_agg ?_ | with_reducible exact fresh_nilA | with_reducible refine fresh_consA ?_ ?_)); done)
          | exact rfl
          | (simp; done)
          ))
          | ((conv => whnf) <;> (first
          | (with_reducible refine and_same ?_)
          | (with_reducible refine and_side ?_ ?_)
          | (with_reducible refine Br.yes rfl ?_)
          | ((with_reducible apply Br.yes) ; (focus omega))
          | ((with_reducible apply Br.no) ; (focus omega))
          | ((with_reducible apply Br.no) ; (focus assumption))
          | ((with_reducible apply Br.yes) ; (focus assumption))
          | ((with_reducible apply Br.yes) ; (focus ((with_reducible refine And.intro ?_ ?_) ; (repeat' (first | with_reducible rfl | exact True.intro | with_reducible refine And.intro ?_ ?_ | omega | assumption)) ; (first | done | fail))))
          | (with_reducible refine Br.mk (fun _ => ?_) (fun _ => ?_))
          | (with_reducible refine Both.mk ?_ ?_)
          | ((with_reducible apply blkAt_intro) ; (focus (first
          | exact rfl
          | ((repeat (first
          | assumption
          | exact get_new
          | exact get_set (by assumption)
          | exact get_set get_new
          | with_reducible apply get_set
          | apply get_set
          | apply get_old
          | (apply get_set_ne; (focus (first | omega | (simp only [newB_length, List.length_set, List.length_append, List.length_singleton, List.length_nil]; omega))))
          )); done)
          )) ; (focus (first | rfl | assumption | omega)) ; (try dsimp only))
          | ((with_reducible apply nthR_dat) ; (focus assumption))
          | ((with_reducible apply nthR_bs1) ; (focus assumption))
          | ((with_reducible apply nthR_is1) ; (focus assumption))
          | ((with_reducible apply appendR_lit) ; (focus (first
          | exact rfl
          | ((repeat (first
          | assumption
          | exact get_new
          | exact get_set (by assumption)
          | exact get_set get_new
          | with_reducible apply get_set
          | apply get_set
          | apply get_old
          | (apply get_set_ne; (focus (first | omega | (simp only [newB_length, List.length_set, List.length_append, List.length_singleton, List.length_nil]; omega))))
          )); done)
          )) ; (focus (first | rfl | assumption)) ; (focus rfl) ; (focus rfl) ; (focus rfl) ; (focus (first | exact Nat.zero_le _ | omega | (simp; done) | (simp; omega))) ; (try dsimp only))
          | (with_reducible refine appendR_nil ?_ ?_)
          | ((with_reducible apply lenR_own) ; (focus assumption))
          | ((with_reducible apply lenR_own) ; (focus (apply Own.upTo ; (focus assumption) ; (repeat (first | exact Gr.refl _ _ | assumption | with_reducible refine Gr.trans ?_ (Gr.boxN _ _ _ _ _) | refine Gr.setNew ?_ (by first | exact Nat.le_refl _ | (simp only [newB_length, List.length_set, List.length_append, List.length_singleton]; omega) | omega) _ | refine Gr.addN ?_ _ | refine Gr.newN ?_ _ _ _ | exact Gr.trans (by assumption) (by assumption) | refine Gr.trans ?_ (by assumption) | refine Gr.trans (by assumption) ?_)) ; (first | done | fail))))
          | ((with_reducible apply rowsR_own) ; (focus assumption))
          | ((with_reducible apply rowsR_own) ; (focus (apply Own.upTo ; (focus assumption) ; (repeat (first | exact Gr.refl _ _ | assumption | with_reducible refine Gr.trans ?_ (Gr.boxN _ _ _ _ _) | refine Gr.setNew ?_ (by first | exact Nat.le_refl _ | (simp only [newB_length, List.length_set, List.length_append, List.length_singleton]; omega) | omega) _ | refine Gr.addN ?_ _ | refine Gr.newN ?_ _ _ _ | exact Gr.trans (by assumption) (by assumption) | refine Gr.trans ?_ (by assumption) | refine Gr.trans (by assumption) ?_)) ; (first | done | fail))))
          | ((with_reducible apply ia_own) ; (focus assumption))
          | ((with_reducible apply ia_own) ; (focus (apply Own.upTo ; (focus assumption) ; (repeat (first | exact Gr.refl _ _ | assumption | with_reducible refine Gr.trans ?_ (Gr.boxN _ _ _ _ _) | refine Gr.setNew ?_ (by first | exact Nat.le_refl _ | (simp only [newB_length, List.length_set, List.length_append, List.length_singleton]; omega) | omega) _ | refine Gr.addN ?_ _ | refine Gr.newN ?_ _ _ _ | exact Gr.trans (by assumption) (by assumption) | refine Gr.trans ?_ (by assumption) | refine Gr.trans (by assumption) ?_)) ; (first | done | fail))))
          | (with_reducible refine ia_sl ?_ ?_)
          | (with_reducible refine IaW.of ?_)
          | (with_reducible refine SliceW.of ?_)
          | ((with_reducible apply AppC.raw) ; (focus assumption))
          | (with_reducible refine AppC.frz ?_)
          | (with_reducible refine EqnW.of ?_)
          | (with_reducible refine CopyW.of ?_)
          | ((with_reducible apply out_own) ; (focus assumption))
          | (with_reducible refine OutW.of ?_)
          | ((with_reducible apply NOut.own) ; (focus assumption))
          | (with_reducible refine NOut.lit ?_)
          | (with_reducible refine nthR_z ?_)
          | ((with_reducible apply nthR_left) ; (focus (first | omega | (simp only [List.length_append, List.length_cons, List.length_nil, List.length_take, List.length_drop, bs_length]; omega))))
          | (with_reducible refine lenR_sl ?_)
          | (with_reducible refine lenR_nils ?_)
          | (with_reducible refine lenR_rsl ?_)
          | (with_reducible refine rowsR_sl ?_)
          | (with_reducible refine rowsR_nils ?_)
          | (with_reducible refine rowsR_rsl ?_)
          | (with_reducible refine lenR_slx ?_)
          | (with_reducible refine rowsR_slx ?_)
          | (with_reducible refine appendR_slx ?_ ?_ ?_)
          | ((with_reducible apply bytesR_intro) ; (focus (first | rfl | (simp only [bs_take, bs_drop, bs_append]; rfl))))
          | ((with_reducible apply nthR_bs) ; (focus (first | omega | (simp only [List.length_append, List.length_cons, List.length_nil, List.length_take, List.length_drop, bs_length]; omega))))
          | (with_reducible intro _)
          ))
          )
        all_goals (conv => whnf)
        all_goals (try dsimp only)
        all_goals try omega
        refine RCell_call (rof t) k fun σ0 hg0 => ?_
        rw [eV]
        replace hca := hca.keepN hg0
        replace hda := hda.keepN hg0
        generalize hX : 4 + (k : Int) * cw (rof t) = X at *
        have hcut := cel_cut (t := t) hce hX
        repeat' (first
          | ((with_reducible apply Gr.side) ; with_reducible assumption)
          | ((with_reducible apply Gr.side) ; (repeat (first | exact Gr.refl _ _ | assumption | with_reducible refine Gr.trans ?_ (Gr.boxN _ _ _ _ _) | refine Gr.setNew ?_ (by first | exact Nat.le_refl _ | (simp only [newB_length, List.length_set, List.length_append, List.length_singleton]; omega) | omega) _ | refine Gr.addN ?_ _ | refine Gr.newN ?_ _ _ _ | exact Gr.trans (by assumption) (by assumption) | refine Gr.trans ?_ (by assumption) | refine Gr.trans (by assumption) ?_)) ; (first | done | fail))
          | ((with_reducible refine Side.intro ?_) <;> (first
          | with_reducible rfl
          | omega
          | assumption
          | exact Nat.le_of_ble_eq_true rfl
          | (simp only [bs_length, List.length_append, List.length_cons, List.length_nil, List.length_take, List.length_drop, List.length_set, List.length_replicate]; omega)
          | exact .inl (by omega)
          | exact .inr (.inl ⟨rfl, by (simp only [bs_length, List.length_append, List.length_cons, List.length_nil, List.length_take, List.length_drop, List.length_set, List.length_replicate]; omega)⟩)
          | exact Ref.ok_refl _ _
          | (simp only [List.append_nil, List.nil_append, List.map_nil]; first | exact List.nodup_nil | exact nodup_bid1 _ | exact nodup_bid2 (by assumption))
          | ((first | refine fresh_tup ?_ | skip); (repeat (first | exact fresh_datT _ |  exact FreshA.sl _ _ FreshA_bs | exact FreshA.sl _ _ FreshA_is | exact FreshA.nils | exact FreshA.nilp | exact FreshA.int _ _ | exact FreshA.bool _ | exact FreshA.str _ | exact fresh_nil | refine fresh_cons ?_ ?_ | with_reducible refine fresh_aggR ?_ | with_reducible refine fresh_agg ?_ | with_reducible exact fresh_nilA | with_reducible refine fresh_consA ?_ ?_)); done)
          | exact rfl
          | (simp; done)
          ))
          | ((conv => whnf) <;> (first
          | (with_reducible refine and_same ?_)
          | (with_reducible refine and_side ?_ ?_)
          | (with_reducible refine Br.yes rfl ?_)
          | ((with_reducible apply Br.yes) ; (focus omega))
          | ((with_reducible apply Br.no) ; (focus omega))
          | ((with_reducible apply Br.no) ; (focus assumption))
          | ((with_reducible apply Br.yes) ; (focus assumption))
          | ((with_reducible apply Br.yes) ; (focus ((with_reducible refine And.intro ?_ ?_) ; (repeat' (first | with_reducible rfl | exact True.intro | with_reducible refine And.intro ?_ ?_ | omega | assumption)) ; (first | done | fail))))
          | (with_reducible refine Br.mk (fun _ => ?_) (fun _ => ?_))
          | (with_reducible refine Both.mk ?_ ?_)
          | ((with_reducible apply blkAt_intro) ; (focus (first
          | exact rfl
          | ((repeat (first
          | assumption
          | exact get_new
          | exact get_set (by assumption)
          | exact get_set get_new
          | with_reducible apply get_set
          | apply get_set
          | apply get_old
          | (apply get_set_ne; (focus (first | omega | (simp only [newB_length, List.length_set, List.length_append, List.length_singleton, List.length_nil]; omega))))
          )); done)
          )) ; (focus (first | rfl | assumption | omega)) ; (try dsimp only))
          | ((with_reducible apply nthR_dat) ; (focus assumption))
          | ((with_reducible apply nthR_bs1) ; (focus assumption))
          | ((with_reducible apply nthR_is1) ; (focus assumption))
          | ((with_reducible apply appendR_lit) ; (focus (first
          | exact rfl
          | ((repeat (first
          | assumption
          | exact get_new
          | exact get_set (by assumption)
          | exact get_set get_new
          | with_reducible apply get_set
          | apply get_set
          | apply get_old
          | (apply get_set_ne; (focus (first | omega | (simp only [newB_length, List.length_set, List.length_append, List.length_singleton, List.length_nil]; omega))))
          )); done)
          )) ; (focus (first | rfl | assumption)) ; (focus rfl) ; (focus rfl) ; (focus rfl) ; (focus (first | exact Nat.zero_le _ | omega | (simp; done) | (simp; omega))) ; (try dsimp only))
          | (with_reducible refine appendR_nil ?_ ?_)
          | ((with_reducible apply lenR_own) ; (focus assumption))
          | ((with_reducible apply lenR_own) ; (focus (apply Own.upTo ; (focus assumption) ; (repeat (first | exact Gr.refl _ _ | assumption | with_reducible refine Gr.trans ?_ (Gr.boxN _ _ _ _ _) | refine Gr.setNew ?_ (by first | exact Nat.le_refl _ | (simp only [newB_length, List.length_set, List.length_append, List.length_singleton]; omega) | omega) _ | refine Gr.addN ?_ _ | refine Gr.newN ?_ _ _ _ | exact Gr.trans (by assumption) (by assumption) | refine Gr.trans ?_ (by assumption) | refine Gr.trans (by assumption) ?_)) ; (first | done | fail))))
          | ((with_reducible apply rowsR_own) ; (focus assumption))
          | ((with_reducible apply rowsR_own) ; (focus (apply Own.upTo ; (focus assumption) ; (repeat (first | exact Gr.refl _ _ | assumption | with_reducible refine Gr.trans ?_ (Gr.boxN _ _ _ _ _) | refine Gr.setNew ?_ (by first | exact Nat.le_refl _ | (simp only [newB_length, List.length_set, List.length_append, List.length_singleton]; omega) | omega) _ | refine Gr.addN ?_ _ | refine Gr.newN ?_ _ _ _ | exact Gr.trans (by assumption) (by assumption) | refine Gr.trans ?_ (by assumption) | refine Gr.trans (by assumption) ?_)) ; (first | done | fail))))
          | ((with_reducible apply ia_own) ; (focus assumption))
          | ((with_reducible apply ia_own) ; (focus (apply Own.upTo ; (focus assumption) ; (repeat (first | exact Gr.refl _ _ | assumption | with_reducible refine Gr.trans ?_ (Gr.boxN _ _ _ _ _) | refine Gr.setNew ?_ (by first | exact Nat.le_refl _ | (simp only [newB_length, List.length_set, List.length_append, List.length_singleton]; omega) | omega) _ | refine Gr.addN ?_ _ | refine Gr.newN ?_ _ _ _ | exact Gr.trans (by assumption) (by assumption) | refine Gr.trans ?_ (by assumption) | refine Gr.trans (by assumption) ?_)) ; (first | done | fail))))
          | (with_reducible refine ia_sl ?_ ?_)
          | (with_reducible refine IaW.of ?_)
          | (with_reducible refine SliceW.of ?_)
          | ((with_reducible apply AppC.raw) ; (focus assumption))
          | (with_reducible refine AppC.frz ?_)
          | (with_reducible refine EqnW.of ?_)
          | (with_reducible refine CopyW.of ?_)
          | ((with_reducible apply out_own) ; (focus assumption))
          | (with_reducible refine OutW.of ?_)
          | ((with_reducible apply NOut.own) ; (focus assumption))
          | (with_reducible refine NOut.lit ?_)
          | (with_reducible refine nthR_z ?_)
          | ((with_reducible apply nthR_left) ; (focus (first | omega | (simp only [List.length_append, List.length_cons, List.length_nil, List.length_take, List.length_drop, bs_length]; omega))))
          | (with_reducible refine lenR_sl ?_)
          | (with_reducible refine lenR_nils ?_)
          | (with_reducible refine lenR_rsl ?_)
          | (with_reducible refine rowsR_sl ?_)
          | (with_reducible refine rowsR_nils ?_)
          | (with_reducible refine rowsR_rsl ?_)
          | (with_reducible refine lenR_slx ?_)
          | (with_reducible refine rowsR_slx ?_)
          | (with_reducible refine appendR_slx ?_ ?_ ?_)
          | ((with_reducible apply bytesR_intro) ; (focus (first | rfl | (simp only [bs_take, bs_drop, bs_append]; rfl))))
          | ((with_reducible apply nthR_bs) ; (focus (first | omega | (simp only [List.length_append, List.length_cons, List.length_nil, List.length_take, List.length_drop, bs_length]; omega))))
          | (with_reducible intro _)
          ))
          )
        all_goals (conv => whnf)
        all_goals (try dsimp only)
        refine appendR_own (rows := is (rcI (rbit t) k)) (hca.keepN (by (repeat (first | exact Gr.refl _ _ | assumption | with_reducible refine Gr.trans ?_ (Gr.boxN _ _ _ _ _) | refine Gr.setNew ?_ (by first | exact Nat.le_refl _ | (simp only [newB_length, List.length_set, List.length_append, List.length_singleton]; omega) | omega) _ | refine Gr.addN ?_ _ | refine Gr.newN ?_ _ _ _ | exact Gr.trans (by assumption) (by assumption) | refine Gr.trans ?_ (by assumption) | refine Gr.trans (by assumption) ?_)))) (by simp only [List.length_take, List.length_drop, List.length_set, List.length_replicate]; omega) ?_
        intro ca' σ1 hca' hg1' hb1'
        repeat' (first
          | ((with_reducible apply Gr.side) ; with_reducible assumption)
          | ((with_reducible apply Gr.side) ; (repeat (first | exact Gr.refl _ _ | assumption | with_reducible refine Gr.trans ?_ (Gr.boxN _ _ _ _ _) | refine Gr.setNew ?_ (by first | exact Nat.le_refl _ | (simp only [newB_length, List.length_set, List.length_append, List.length_singleton]; omega) | omega) _ | refine Gr.addN ?_ _ | refine Gr.newN ?_ _ _ _ | exact Gr.trans (by assumption) (by assumption) | refine Gr.trans ?_ (by assumption) | refine Gr.trans (by assumption) ?_)) ; (first | done | fail))
          | ((with_reducible refine Side.intro ?_) <;> (first
          | with_reducible rfl
          | omega
          | assumption
          | exact Nat.le_of_ble_eq_true rfl
          | (simp only [bs_length, List.length_append, List.length_cons, List.length_nil, List.length_take, List.length_drop, List.length_set, List.length_replicate]; omega)
          | exact .inl (by omega)
          | exact .inr (.inl ⟨rfl, by (simp only [bs_length, List.length_append, List.length_cons, List.length_nil, List.length_take, List.length_drop, List.length_set, List.length_replicate]; omega)⟩)
          | exact Ref.ok_refl _ _
          | (simp only [List.append_nil, List.nil_append, List.map_nil]; first | exact List.nodup_nil | exact nodup_bid1 _ | exact nodup_bid2 (by assumption))
          | ((first | refine fresh_tup ?_ | skip); (repeat (first | exact fresh_datT _ |  exact FreshA.sl _ _ FreshA_bs | exact FreshA.sl _ _ FreshA_is | exact FreshA.nils | exact FreshA.nilp | exact FreshA.int _ _ | exact FreshA.bool _ | exact FreshA.str _ | exact fresh_nil | refine fresh_cons ?_ ?_ | with_reducible refine fresh_aggR ?_ | with_reducible refine fresh_agg ?_ | with_reducible exact fresh_nilA | with_reducible refine fresh_consA ?_ ?_)); done)
          | exact rfl
          | (simp; done)
          ))
          | ((conv => whnf) <;> (first
          | (with_reducible refine and_same ?_)
          | (with_reducible refine and_side ?_ ?_)
          | (with_reducible refine Br.yes rfl ?_)
          | ((with_reducible apply Br.yes) ; (focus omega))
          | ((with_reducible apply Br.no) ; (focus omega))
          | ((with_reducible apply Br.no) ; (focus assumption))
          | ((with_reducible apply Br.yes) ; (focus assumption))
          | ((with_reducible apply Br.yes) ; (focus ((with_reducible refine And.intro ?_ ?_) ; (repeat' (first | with_reducible rfl | exact True.intro | with_reducible refine And.intro ?_ ?_ | omega | assumption)) ; (first | done | fail))))
          | (with_reducible refine Br.mk (fun _ => ?_) (fun _ => ?_))
          | (with_reducible refine Both.mk ?_ ?_)
          | ((with_reducible apply blkAt_intro) ; (focus (first
          | exact rfl
          | ((repeat (first
          | assumption
          | exact get_new
          | exact get_set (by assumption)
          | exact get_set get_new
          | with_reducible apply get_set
          | apply get_set
          | apply get_old
          | (apply get_set_ne; (focus (first | omega | (simp only [newB_length, List.length_set, List.length_append, List.length_singleton, List.length_nil]; omega))))
          )); done)
          )) ; (focus (first | rfl | assumption | omega)) ; (try dsimp only))
          | ((with_reducible apply nthR_dat) ; (focus assumption))
          | ((with_reducible apply nthR_bs1) ; (focus assumption))
          | ((with_reducible apply nthR_is1) ; (focus assumption))
          | ((with_reducible apply appendR_lit) ; (focus (first
          | exact rfl
          | ((repeat (first
          | assumption
          | exact get_new
          | exact get_set (by assumption)
          | exact get_set get_new
          | with_reducible apply get_set
          | apply get_set
          | apply get_old
          | (apply get_set_ne; (focus (first | omega | (simp only [newB_length, List.length_set, List.length_append, List.length_singleton, List.length_nil]; omega))))
          )); done)
          )) ; (focus (first | rfl | assumption)) ; (focus rfl) ; (focus rfl) ; (focus rfl) ; (focus (first | exact Nat.zero_le _ | omega | (simp; done) | (simp; omega))) ; (try dsimp only))
          | (with_reducible refine appendR_nil ?_ ?_)
          | ((with_reducible apply lenR_own) ; (focus assumption))
          | ((with_reducible apply lenR_own) ; (focus (apply Own.upTo ; (focus assumption) ; (repeat (first | exact Gr.refl _ _ | assumption | with_reducible refine Gr.trans ?_ (Gr.boxN _ _ _ _ _) | refine Gr.setNew ?_ (by first | exact Nat.le_refl _ | (simp only [newB_length, List.length_set, List.length_append, List.length_singleton]; omega) | omega) _ | refine Gr.addN ?_ _ | refine Gr.newN ?_ _ _ _ | exact Gr.trans (by assumption) (by assumption) | refine Gr.trans ?_ (by assumption) | refine Gr.trans (by assumption) ?_)) ; (first | done | fail))))
          | ((with_reducible apply rowsR_own) ; (focus assumption))
          | ((with_reducible apply rowsR_own) ; (focus (apply Own.upTo ; (focus assumption) ; (repeat (first | exact Gr.refl _ _ | assumption | with_reducible refine Gr.trans ?_ (Gr.boxN _ _ _ _ _) | refine Gr.setNew ?_ (by first | exact Nat.le_refl _ | (simp only [newB_length, List.length_set, List.length_append, List.length_singleton]; omega) | omega) _ | refine Gr.addN ?_ _ | refine Gr.newN ?_ _ _ _ | exact Gr.trans (by assumption) (by assumption) | refine Gr.trans ?_ (by assumption) | refine Gr.trans (by assumption) ?_)) ; (first | done | fail))))
          | ((with_reducible apply ia_own) ; (focus assumption))
          | ((with_reducible apply ia_own) ; (focus (apply Own.upTo ; (focus assumption) ; (repeat (first | exact Gr.refl _ _ | assumption | with_reducible refine Gr.trans ?_ (Gr.boxN _ _ _ _ _) | refine Gr.setNew ?_ (by first | exact Nat.le_refl _ | (simp only [newB_length, List.length_set, List.length_append, List.length_singleton]; omega) | omega) _ | refine Gr.addN ?_ _ | refine Gr.newN ?_ _ _ _ | exact Gr.trans (by assumption) (by assumption) | refine Gr.trans ?_ (by assumption) | refine Gr.trans (by assumption) ?_)) ; (first | done | fail))))
          | (with_reducible refine ia_sl ?_ ?_)
          | (with_reducible refine IaW.of ?_)
          | (with_reducible refine SliceW.of ?_)
          | ((with_reducible apply AppC.raw) ; (focus assumption))
          | (with_reducible refine AppC.frz ?_)
          | (with_reducible refine EqnW.of ?_)
          | (with_reducible refine CopyW.of ?_)
          | ((with_reducible apply out_own) ; (focus assumption))
          | (with_reducible refine OutW.of ?_)
          | ((with_reducible apply NOut.own) ; (focus assumption))
          | (with_reducible refine NOut.lit ?_)
          | (with_reducible refine nthR_z ?_)
          | ((with_reducible apply nthR_left) ; (focus (first | omega | (simp only [List.length_append, List.length_cons, List.length_nil, List.length_take, List.length_drop, bs_length]; omega))))
          | (with_reducible refine lenR_sl ?_)
          | (with_reducible refine lenR_nils ?_)
          | (with_reducible refine lenR_rsl ?_)
          | (with_reducible refine rowsR_sl ?_)
          | (with_reducible refine rowsR_nils ?_)
          | (with_reducible refine rowsR_rsl ?_)
          | (with_reducible refine lenR_slx ?_)
          | (with_reducible refine rowsR_slx ?_)
          | (with_reducible refine appendR_slx ?_ ?_ ?_)
          | ((with_reducible apply bytesR_intro) ; (focus (first | rfl | (simp only [bs_take, bs_drop, bs_append]; rfl))))
          | ((with_reducible apply nthR_bs) ; (focus (first | omega | (simp only [List.length_append, List.length_cons, List.length_nil, List.length_take, List.length_drop, bs_length]; omega))))
          | (with_reducible intro _)
          ))
          )
        all_goals (conv => whnf)
        all_goals (try dsimp only)
        have hda1 : Own σ1 1 da (datT (rdD (rof t) t (rbit t) k)) := Own.keep hg1' (Own.keepN (by (repeat (first | exact Gr.refl _ _ | assumption | with_reducible refine Gr.trans ?_ (Gr.boxN _ _ _ _ _) | refine Gr.setNew ?_ (by first | exact Nat.le_refl _ | (simp only [newB_length, List.length_set, List.length_append, List.length_singleton]; omega) | omega) _ | refine Gr.addN ?_ _ | refine Gr.newN ?_ _ _ _ | exact Gr.trans (by assumption) (by assumption) | refine Gr.trans ?_ (by assumption) | refine Gr.trans (by assumption) ?_))) hda) (disj_keep hdj)
        have et : List.take (0 + (bs (cel (rof t) t k)).length) (List.drop 0 (List.take 0 (List.replicate 0 [AV.int IntKind.u8 0]) ++ bs (cel (rof t) t k))) = bs (cel (rof t) t k) := by
          rw [List.drop_zero, List.take_zero, List.nil_append, Nat.zero_add, List.take_length]
        rw [hcut, et]
        have l01 := hg1'.1
        simp only [newB_length] at l01
        have D1 : ca'.bid = none ∨ ca'.bid ≠ da.bid := by
          rcases hb1' with q | q
          · rw [q]; exact hdj
          · right
            rw [q]
            intro e
            have := hda.lt e.symm
            simp only [newB_length] at this
            omega
        refine appendR_own (rows := datT (rdD (rof t) t (rbit t) k)) (hda1.keepN (by (repeat (first | exact Gr.refl _ _ | assumption | with_reducible refine Gr.trans ?_ (Gr.boxN _ _ _ _ _) | refine Gr.setNew ?_ (by first | exact Nat.le_refl _ | (simp only [newB_length, List.length_set, List.length_append, List.length_singleton]; omega) | omega) _ | refine Gr.addN ?_ _ | refine Gr.newN ?_ _ _ _ | exact Gr.trans (by assumption) (by assumption) | refine Gr.trans ?_ (by assumption) | refine Gr.trans (by assumption) ?_)))) (by simp only [List.length_cons, List.length_nil]; omega) ?_
        intro da' σ4 hda' hg4' hb4'
        have hca4 := Own.keep hg4' (hca'.keepN (by (repeat (first | exact Gr.refl _ _ | assumption | with_reducible refine Gr.trans ?_ (Gr.boxN _ _ _ _ _) | refine Gr.setNew ?_ (by first | exact Nat.le_refl _ | (simp only [newB_length, List.length_set, List.length_append, List.length_singleton]; omega) | omega) _ | refine Gr.addN ?_ _ | refine Gr.newN ?_ _ _ _ | exact Gr.trans (by assumption) (by assumption) | refine Gr.trans ?_ (by assumption) | refine Gr.trans (by assumption) ?_)))) (disj_keep (disj_symm D1))
        have D2 : ca'.bid = none ∨ ca'.bid ≠ da'.bid := by
          rcases hb4' with q | q
          · rw [q]; exact D1
          · right
            rw [q]
            intro e
            have := hca'.lt e
            simp only [newB_length, List.length_set] at this
            omega
        repeat' (first
          | ((with_reducible apply Gr.side) ; with_reducible assumption)
          | ((with_reducible apply Gr.side) ; (repeat (first | exact Gr.refl _ _ | assumption | with_reducible refine Gr.trans ?_ (Gr.boxN _ _ _ _ _) | refine Gr.setNew ?_ (by first | exact Nat.le_refl _ | (simp only [newB_length, List.length_set, List.length_append, List.length_singleton]; omega) | omega) _ | refine Gr.addN ?_ _ | refine Gr.newN ?_ _ _ _ | exact Gr.trans (by assumption) (by assumption) | refine Gr.trans ?_ (by assumption) | refine Gr.trans (by assumption) ?_)) ; (first | done | fail))
          | ((with_reducible refine Side.intro ?_) <;> (first
          | with_reducible rfl
          | omega
          | assumption
          | exact Nat.le_of_ble_eq_true rfl
          | (simp only [bs_length, List.length_append, List.length_cons, List.length_nil, List.length_take, List.length_drop, List.length_set, List.length_replicate]; omega)
          | exact .inl (by omega)
          | exact .inr (.inl ⟨rfl, by (simp only [bs_length, List.length_append, List.length_cons, List.length_nil, List.length_take, List.length_drop, List.length_set, List.length_replicate]; omega)⟩)
          | exact Ref.ok_refl _ _
          | (simp only [List.append_nil, List.nil_append, List.map_nil]; first | exact List.nodup_nil | exact nodup_bid1 _ | exact nodup_bid2 (by assumption))
          | ((first | refine fresh_tup ?_ | skip); (repeat (first | exact fresh_datT _ |  exact FreshA.sl _ _ FreshA_bs | exact FreshA.sl _ _ FreshA_is | exact FreshA.nils | exact FreshA.nilp | exact FreshA.int _ _ | exact FreshA.bool _ | exact FreshA.str _ | exact fresh_nil | refine fresh_cons ?_ ?_ | with_reducible refine fresh_aggR ?_ | with_reducible refine fresh_agg ?_ | with_reducible exact fresh_nilA | with_reducible refine fresh_consA ?_ ?_)); done)
          | exact rfl
          | (simp; done)
          ))
          | ((conv => whnf) <;> (first
          | (with_reducible refine and_same ?_)
          | (with_reducible refine and_side ?_ ?_)
          | (with_reducible refine Br.yes rfl ?_)
          | ((with_reducible apply Br.yes) ; (focus omega))
          | ((with_reducible apply Br.no) ; (focus omega))
          | ((with_reducible apply Br.no) ; (focus assumption))
          | ((with_reducible apply Br.yes) ; (focus assumption))
          | ((with_reducible apply Br.yes) ; (focus ((with_reducible refine And.intro ?_ ?_) ; (repeat' (first | with_reducible rfl | exact True.intro | with_reducible refine And.intro ?_ ?_ | omega | assumption)) ; (first | done | fail))))
          | (with_reducible refine Br.mk (fun _ => ?_) (fun _ => ?_))
          | (with_reducible refine Both.mk ?_ ?_)
          | ((with_reducible apply blkAt_intro) ; (focus (first
          | exact rfl
          | ((repeat (first
          | assumption
          | exact get_new
          | exact get_set (by assumption)
          | exact get_set get_new
          | with_reducible apply get_set
          | apply get_set
          | apply get_old
          | (apply get_set_ne; (focus (first | omega | (simp only [newB_length, List.length_set, List.length_append, List.length_singleton, List.length_nil]; omega))))
          )); done)
          )) ; (focus (first | rfl | assumption | omega)) ; (try dsimp only))
          | ((with_reducible apply nthR_dat) ; (focus assumption))
          | ((with_reducible apply nthR_bs1) ; (focus assumption))
          | ((with_reducible apply nthR_is1) ; (focus assumption))
          | ((with_reducible apply appendR_lit) ; (focus (first
          | exact rfl
          | ((repeat (first
          | assumption
          | exact get_new
          | exact get_set (by assumption)
          | exact get_set get_new
          | with_reducible apply get_set
          | apply get_set
          | apply get_old
          | (apply get_set_ne; (focus (first | omega | (simp only [newB_length, List.length_set, List.length_append, List.length_singleton, List.length_nil]; omega))))
          )); done)
          )) ; (focus (first | rfl | assumption)) ; (focus rfl) ; (focus rfl) ; (focus rfl) ; (focus (first | exact Nat.zero_le _ | omega | (simp; done) | (simp; omega))) ; (try dsimp only))
          | (with_reducible refine appendR_nil ?_ ?_)
          | ((with_reducible apply lenR_own) ; (focus assumption))
          | ((with_reducible apply lenR_own) ; (focus (apply Own.upTo ; (focus assumption) ; (repeat (first | exact Gr.refl _ _ | assumption | with_reducible refine Gr.trans ?_ (Gr.boxN _ _ _ _ _) | refine Gr.setNew ?_ (by first | exact Nat.le_refl _ | (simp only [newB_length, List.length_set, List.length_append, List.length_singleton]; omega) | omega) _ | refine Gr.addN ?_ _ | refine Gr.newN ?_ _ _ _ | exact Gr.trans (by assumption) (by assumption) | refine Gr.trans ?_ (by assumption) | refine Gr.trans (by assumption) ?_)) ; (first | done | fail))))
          | ((with_reducible apply rowsR_own) ; (focus assumption))
          | ((with_reducible apply rowsR_own) ; (focus (apply Own.upTo ; (focus assumption) ; (repeat (first | exact Gr.refl _ _ | assumption | with_reducible refine Gr.trans ?_ (Gr.boxN _ _ _ _ _) | refine Gr.setNew ?_ (by first | exact Nat.le_refl _ | (simp only [newB_length, List.length_set, List.length_append, List.length_singleton]; omega) | omega) _ | refine Gr.addN ?_ _ | refine Gr.newN ?_ _ _ _ | exact Gr.trans (by assumption) (by assumption) | refine Gr.trans ?_ (by assumption) | refine Gr.trans (by assumption) ?_)) ; (first | done | fail))))
          | ((with_reducible apply ia_own) ; (focus assumption))
          | ((with_reducible apply ia_own) ; (focus (apply Own.upTo ; (focus assumption) ; (repeat (first | exact Gr.refl _ _ | assumption | with_reducible refine Gr.trans ?_ (Gr.boxN _ _ _ _ _) | refine Gr.setNew ?_ (by first | exact Nat.le_refl _ | (simp only [newB_length, List.length_set, List.length_append, List.length_singleton]; omega) | omega) _ | refine Gr.addN ?_ _ | refine Gr.newN ?_ _ _ _ | exact Gr.trans (by assumption) (by assumption) | refine Gr.trans ?_ (by assumption) | refine Gr.trans (by assumption) ?_)) ; (first | done | fail))))
          | (with_reducible refine ia_sl ?_ ?_)
          | (with_reducible refine IaW.of ?_)
          | (with_reducible refine SliceW.of ?_)
          | ((with_reducible apply AppC.raw) ; (focus assumption))
          | (with_reducible refine AppC.frz ?_)
          | (with_reducible refine EqnW.of ?_)
          | (with_reducible refine CopyW.of ?_)
          | ((with_reducible apply out_own) ; (focus assumption))
          | (with_reducible refine OutW.of ?_)
          | ((with_reducible apply NOut.own) ; (focus assumption))
          | (with_reducible refine NOut.lit ?_)
          | (with_reducible refine nthR_z ?_)
          | ((with_reducible apply nthR_left) ; (focus (first | omega | (simp only [List.length_append, List.length_cons, List.length_nil, List.length_take, List.length_drop, bs_length]; omega))))
          | (with_reducible refine lenR_sl ?_)
          | (with_reducible refine lenR_nils ?_)
          | (with_reducible refine lenR_rsl ?_)
          | (with_reducible refine rowsR_sl ?_)
          | (with_reducible refine rowsR_nils ?_)
          | (with_reducible refine rowsR_rsl ?_)
          | (with_reducible refine lenR_slx ?_)
          | (with_reducible refine rowsR_slx ?_)
          | (with_reducible refine appendR_slx ?_ ?_ ?_)
          | ((with_reducible apply bytesR_intro) ; (focus (first | rfl | (simp only [bs_take, bs_drop, bs_append]; rfl))))
          | ((with_reducible apply nthR_bs) ; (focus (first | omega | (simp only [List.length_append, List.length_cons, List.length_nil, List.length_take, List.length_drop, bs_length]; omega))))
          | (with_reducible intro _)
          ))
          )
        all_goals (conv => whnf)
        all_goals (try dsimp only)
        refine ⟨(k + 1, σ4, ca', da'), rfl, rfl, ⟨by dsimp only; omega, ?_, ?_, D2⟩, by dsimp only; omega⟩
        · dsimp only
          rw [rcI, rcs_yes hb1, List.map_append, ← is_append]
          exact hca4
        · dsimp only
          rw [rdD, rcs_yes hb1, List.map_append, datT_append]
          exact hda'
      · have hb1 : bitB (rbit t) k = false := decide_eq_false (by rw [hq] at hbit; exact hbit)
        repeat' (first
          | ((with_reducible apply Gr.side) ; with_reducible assumption)
          | ((with_reducible apply Gr.side) ; (repeat (first | exact Gr.refl _ _ | assumption | with_reducible refine Gr.trans ?_ (Gr.boxN _ _ _ _ _) | refine Gr.setNew ?_ (by first | exact Nat.le_refl _ | (simp only [newB_length, List.length_set, List.length_append, List.length_singleton]; omega) | omega) _ | refine Gr.addN ?_ _ | refine Gr.newN ?_ _ _ _ | exact Gr.trans (by assumption) (by assumption) | refine Gr.trans ?_ (by assumption) | refine Gr.trans (by assumption) ?_)) ; (first | done | fail))
          | ((with_reducible refine Side.intro ?_) <;> (first
          | with_reducible rfl
          | omega
          | assumption
          | exact Nat.le_of_ble_eq_true rfl
          | (simp only [bs_length, List.length_append, List.length_cons, List.length_nil, List.length_take, List.length_drop, List.length_set, List.length_replicate]; omega)
          | exact .inl (by omega)
          | exact .inr (.inl ⟨rfl, by (simp only [bs_length, List.length_append, List.length_cons, List.length_nil, List.length_take, List.length_drop, List.length_set, List.length_replicate]; omega)⟩)
          | exact Ref.ok_refl _ _
          | (simp only [List.append_nil, List.nil_append, List.map_nil]; first | exact List.nodup_nil | exact nodup_bid1 _ | exact nodup_bid2 (by assumption))
          | ((first | refine fresh_tup ?_ | skip); (repeat (first | exact fresh_datT _ |  exact FreshA.sl _ _ FreshA_bs | exact FreshA.sl _ _ FreshA_is | exact FreshA.nils | exact FreshA.nilp | exact FreshA.int _ _ | exact FreshA.bool _ | exact FreshA.str _ | exact fresh_nil | refine fresh_cons ?_ ?_ | with_reducible refine fresh_aggR ?_ | with_reducible refine fresh_agg ?_ | with_reducible exact fresh_nilA | with_reducible refine fresh_consA ?_ ?_)); done)
          | exact rfl
          | (simp; done)
          ))
          | ((conv => whnf) <;> (first
          | (with_reducible refine and_same ?_)
          | (with_reducible refine and_side ?_ ?_)
          | (with_reducible refine Br.yes rfl ?_)
          | ((with_reducible apply Br.yes) ; (focus omega))
          | ((with_reducible apply Br.no) ; (focus omega))
          | ((with_reducible apply Br.no) ; (focus assumption))
          | ((with_reducible apply Br.yes) ; (focus assumption))
          | ((with_reducible apply Br.yes) ; (focus ((with_reducible refine And.intro ?_ ?_) ; (repeat' (first | with_reducible rfl | exact True.intro | with_reducible refine And.intro ?_ ?_ | omega | assumption)) ; (first | done | fail))))
          | (with_reducible refine Br.mk (fun _ => ?_) (fun _ => ?_))
          | (with_reducible refine Both.mk ?_ ?_)
          | ((with_reducible apply blkAt_intro) ; (focus (first
          | exact rfl
          | ((repeat (first
          | assumption
          | exact get_new
          | exact get_set (by assumption)
          | exact get_set get_new
          | with_reducible apply get_set
          | apply get_set
          | apply get_old
          | (apply get_set_ne; (focus (first | omega | (simp only [newB_length, List.length_set, List.length_append, List.length_singleton, List.length_nil]; omega))))
          )); done)
          )) ; (focus (first | rfl | assumption | omega)) ; (try dsimp only))
          | ((with_reducible apply nthR_dat) ; (focus assumption))
          | ((with_reducible apply nthR_bs1) ; (focus assumption))
          | ((with_reducible apply nthR_is1) ; (focus assumption))
          | ((with_reducible apply appendR_lit) ; (focus (first
          | exact rfl
          | ((repeat (first
          | assumption
          | exact get_new
          | exact get_set (by assumption)
          | exact get_set get_new
          | with_reducible apply get_set
          | apply get_set
          | apply get_old
          | (apply get_set_ne; (focus (first | omega | (simp only [newB_length, List.length_set, List.length_append, List.length_singleton, List.length_nil]; omega))))
          )); done)
          )) ; (focus (first | rfl | assumption)) ; (focus rfl) ; (focus rfl) ; (focus rfl) ; (focus (first | exact Nat.zero_le _ | omega | (simp; done) | (simp; omega))) ; (try dsimp only))
          | (with_reducible refine appendR_nil ?_ ?_)
          | ((with_reducible apply lenR_own) ; (focus assumption))
          | ((with_reducible apply lenR_own) ; (focus (apply Own.upTo ; (focus assumption) ; (repeat (first | exact Gr.refl _ _ | assumption | with_reducible refine Gr.trans ?_ (Gr.boxN _ _ _ _ _) | refine Gr.setNew ?_ (by first | exact Nat.le_refl _ | (simp only [newB_length, List.length_set, List.length_append, List.length_singleton]; omega) | omega) _ | refine Gr.addN ?_ _ | refine Gr.newN ?_ _ _ _ | exact Gr.trans (by assumption) (by assumption) | refine Gr.trans ?_ (by assumption) | refine Gr.trans (by assumption) ?_)) ; (first | done | fail))))
          | ((with_reducible apply rowsR_own) ; (focus assumption))
          | ((with_reducible apply rowsR_own) ; (focus (apply Own.upTo ; (focus assumption) ; (repeat (first | exact Gr.refl _ _ | assumption | with_reducible refine Gr.trans ?_ (Gr.boxN _ _ _ _ _) | refine Gr.setNew ?_ (by first | exact Nat.le_refl _ | (simp only [newB_length, List.length_set, List.length_append, List.length_singleton]; omega) | omega) _ | refine Gr.addN ?_ _ | refine Gr.newN ?_ _ _ _ | exact Gr.trans (by assumption) (by assumption) | refine Gr.trans ?_ (by assumption) | refine Gr.trans (by assumption) ?_)) ; (first | done | fail))))
          | ((with_reducible apply ia_own) ; (focus assumption))
          | ((with_reducible apply ia_own) ; (focus (apply Own.upTo ; (focus assumption) ; (repeat (first | exact Gr.refl _ _ | assumption | with_reducible refine Gr.trans ?_ (Gr.boxN _ _ _ _ _) | refine Gr.setNew ?_ (by first | exact Nat.le_refl _ | (simp only [newB_length, List.length_set, List.length_append, List.length_singleton]; omega) | omega) _ | refine Gr.addN ?_ _ | refine Gr.newN ?_ _ _ _ | exact Gr.trans (by assumption) (by assumption) | refine Gr.trans ?_ (by assumption) | refine Gr.trans (by assumption) ?_)) ; (first | done | fail))))
          | (with_reducible refine ia_sl ?_ ?_)
          | (with_reducible refine IaW.of ?_)
          | (with_reducible refine SliceW.of ?_)
          | ((with_reducible apply AppC.raw) ; (focus assumption))
          | (with_reducible refine AppC.frz ?_)
          | (with_reducible refine EqnW.of ?_)
          | (with_reducible refine CopyW.of ?_)
          | ((with_reducible apply out_own) ; (focus assumption))
          | (with_reducible refine OutW.of ?_)
          | ((with_reducible apply NOut.own) ; (focus assumption))
          | (with_reducible refine NOut.lit ?_)
          | (with_reducible refine nthR_z ?_)
          | ((with_reducible apply nthR_left) ; (focus (first | omega | (simp only [List.length_append, List.length_cons, List.length_nil, List.length_take, List.length_drop, bs_length]; omega))))
          | (with_reducible refine lenR_sl ?_)
          | (with_reducible refine lenR_nils ?_)
          | (with_reducible refine lenR_rsl ?_)
          | (with_reducible refine rowsR_sl ?_)
          | (with_reducible refine rowsR_nils ?_)
          | (with_reducible refine rowsR_rsl ?_)
          | (with_reducible refine lenR_slx ?_)
          | (with_reducible refine rowsR_slx ?_)
          | (with_reducible refine appendR_slx ?_ ?_ ?_)
          | ((with_reducible apply bytesR_intro) ; (focus (first | rfl | (simp only [bs_take, bs_drop, bs_append]; rfl))))
          | ((with_reducible apply nthR_bs) ; (focus (first | omega | (simp only [List.length_append, List.length_cons, List.length_nil, List.length_take, List.length_drop, bs_length]; omega))))
          | (with_reducible intro _)
          ))
          )
        all_goals (conv => whnf)
        all_goals (try dsimp only)
        all_goals try omega
        refine ⟨(k + 1, σ, ca, da), rfl, rfl, ⟨by dsimp only; omega, ?_, ?_, hdj⟩, by dsimp only; omega⟩
        · dsimp only
          rw [rcI, rcs_no hb1]; exact hca
        · dsimp only
          rw [rdD, rcs_no hb1]; exact hda
    · have hkk : k = (cn (rof t)).toNat := by omega
      subst hkk
      have eC : rcI (rbit t) (cn (rof t)).toNat = rC t := rfl
      have eD : rdD (rof t) t (rbit t) (cn (rof t)).toNat = rD t := rfl
      rw [eC] at hca
      rw [eD] at hda
      obtain ⟨hcl, hdl, hdd⟩ := rCD_len t
      have eO : srOk t = (swOk (rof t) (rC t) (rD t) (rN t) (rP t) && decide (swR (rof t) (rC t) (rD t) (rN t) (rP t) = t)) := by rw [srOk, decide_eq_true hlen, Bool.true_and]
      repeat' (first
        | ((with_reducible apply Gr.side) ; with_reducible assumption)
        | ((with_reducible apply Gr.side) ; (repeat (first | exact Gr.refl _ _ | assumption | with_reducible refine Gr.trans ?_ (Gr.boxN _ _ _ _ _) | refine Gr.setNew ?_ (by first | exact Nat.le_refl _ | (simp only [newB_length, List.length_set, List.length_append, List.length_singleton]; omega) | omega) _ | refine Gr.addN ?_ _ | refine Gr.newN ?_ _ _ _ | exact Gr.trans (by assumption) (by assumption) | refine Gr.trans ?_ (by assumption) | refine Gr.trans (by assumption) ?_)) ; (first | done | fail))
        | ((with_reducible refine Side.intro ?_) <;> (first
        | with_reducible rfl
        | omega
        | assumption
        | exact Nat.le_of_ble_eq_true rfl
        | (simp only [bs_length, List.length_append, List.length_cons, List.length_nil, List.length_take, List.length_drop, List.length_set, List.length_replicate]; omega)
        | exact .inl (by omega)
        | exact .inr (.inl ⟨rfl, by (simp only [bs_length, List.length_append, List.length_cons, List.length_nil, List.length_take, List.length_drop, List.length_set, List.length_replicate]; omega)⟩)
        | exact Ref.ok_refl _ _
        | (simp only [List.append_nil, List.nil_append, List.map_nil]; first | exact List.nodup_nil | exact nodup_bid1 _ | exact nodup_bid2 (by assumption))
        | ((first | refine fresh_tup ?_ | skip); (repeat (first | exact fresh_datT _ |  exact FreshA.sl _ _ FreshA_bs | exact FreshA.sl _ _ FreshA_is | exact FreshA.nils | exact FreshA.nilp | exact FreshA.int _ _ | exact FreshA.bool _ | exact FreshA.str _ | exact fresh_nil | refine fresh_cons ?_ ?_ | with_reducible refine fresh_aggR ?_ | with_reducible refine fresh_agg ?_ | with_reducible exact fresh_nilA | with_reducible refine fresh_consA ?_ ?_)); done)
        | exact rfl
        | (simp; done)
        ))
        | ((conv => whnf) <;> (first
        | (with_reducible refine and_same ?_)
        | (with_reducible refine and_side ?_ ?_)
        | (with_reducible refine Br.yes rfl ?_)
        | ((with_reducible apply Br.yes) ; (focus omega))
        | ((with_reducible apply Br.no) ; (focus omega))
        | ((with_reducible apply Br.no) ; (focus assumption))
        | ((with_reducible apply Br.yes) ; (focus assumption))
        | ((with_reducible apply Br.yes) ; (focus ((with_reducible refine And.intro ?_ ?_) ; (repeat' (first | with_reducible rfl | exact True.intro | with_reducible refine And.intro ?_ ?_ | omega | assumption)) ; (first | done | fail))))
        | (with_reducible refine Br.mk (fun _ => ?_) (fun _ => ?_))
        | (with_reducible refine Both.mk ?_ ?_)
        | ((with_reducible apply blkAt_intro) ; (focus (first
        | exact rfl
        | ((repeat (first
        | assumption
        | exact get_new
        | exact get_set (by assumption)
        | exact get_set get_new
        | with_reducible apply get_set
        | apply get_set
        | apply get_old
        | (apply get_set_ne; (focus (first | omega | (simp only [newB_length, List.length_set, List.length_append, List.length_singleton, List.length_nil]; omega))))
        )); done)
        )) ; (focus (first | rfl | assumption | omega)) ; (try dsimp only))
        | ((with_reducible apply nthR_dat) ; (focus assumption))
        | ((with_reducible apply nthR_bs1) ; (focus assumption))
        | ((with_reducible apply nthR_is1) ; (focus assumption))
        | ((with_reducible apply appendR_lit) ; (focus (first
        | exact rfl
        | ((repeat (first
        | assumption
        | exact get_new
        | exact get_set (by assumption)
        | exact get_set get_new
        | with_reducible apply get_set
        | apply get_set
        | apply get_old
        | (apply get_set_ne; (focus (first | omega | (simp only [newB_length, List.length_set, List.length_append, List.length_singleton, List.length_nil]; omega))))
        )); done)
        )) ; (focus (first | rfl | assumption)) ; (focus rfl) ; (focus rfl) ; (focus rfl) ; (focus (first | exact Nat.zero_le _ | omega | (simp; done) | (simp; omega))) ; (try dsimp only))
        | (with_reducible refine appendR_nil ?_ ?_)
        | ((with_reducible apply lenR_own) ; (focus assumption))
        | ((with_reducible apply lenR_own) ; (focus (apply Own.upTo ; (focus assumption) ; (repeat (first | exact Gr.refl _ _ | assumption | with_reducible refine Gr.trans ?_ (Gr.boxN _ _ _ _ _) | refine Gr.setNew ?_ (by first | exact Nat.le_refl _ | (simp only [newB_length, List.length_set, List.length_append, List.length_singleton]; omega) | omega) _ | refine Gr.addN ?_ _ | refine Gr.newN ?_ _ _ _ | exact Gr.trans (by assumption) (by assumption) | refine Gr.trans ?_ (by assumption) | refine Gr.trans (by assumption) ?_)) ; (first | done | fail))))
        | ((with_reducible apply rowsR_own) ; (focus assumption))
        | ((with_reducible apply rowsR_own) ; (focus (apply Own.upTo ; (focus assumption) ; (repeat (first | exact Gr.refl _ _ | assumption | with_reducible refine Gr.trans ?_ (Gr.boxN _ _ _ _ _) | refine Gr.setNew ?_ (by first | exact Nat.le_refl _ | (simp only [newB_length, List.length_set, List.length_append, List.length_singleton]; omega) | omega) _ | refine Gr.addN ?_ _ | refine Gr.newN ?_ _ _ _ | exact Gr.trans (by assumption) (by assumption) | refine Gr.trans ?_ (by assumption) | refine Gr.trans (by assumption) ?_)) ; (first | done | fail))))
        | ((with_reducible apply ia_own) ; (focus assumption))
        | ((with_reducible apply ia_own) ; (focus (apply Own.upTo ; (focus assumption) ; (repeat (first | exact Gr.refl _ _ | assumption | with_reducible refine Gr.trans ?_ (Gr.boxN _ _ _ _ _) | refine Gr.setNew ?_ (by first | exact Nat.le_refl _ | (simp only [newB_length, List.length_set, List.length_append, List.length_singleton]; omega) | omega) _ | refine Gr.addN ?_ _ | refine Gr.newN ?_ _ _ _ | exact Gr.trans (by assumption) (by assumption) | refine Gr.trans ?_ (by assumption) | refine Gr.trans (by assumption) ?_)) ; (first | done | fail))))
        | (with_reducible refine ia_sl ?_ ?_)
        | (with_reducible refine IaW.of ?_)
        | (with_reducible refine SliceW.of ?_)
        | ((with_reducible apply AppC.raw) ; (focus assumption))
        | (with_reducible refine AppC.frz ?_)
        | (with_reducible refine EqnW.of ?_)
        | (with_reducible refine CopyW.of ?_)
        | ((with_reducible apply out_own) ; (focus assumption))
        | (with_reducible refine OutW.of ?_)
        | ((with_reducible apply NOut.own) ; (focus assumption))
        | (with_reducible refine NOut.lit ?_)
        | (with_reducible refine nthR_z ?_)
        | ((with_reducible apply nthR_left) ; (focus (first | omega | (simp only [List.length_append, List.length_cons, List.length_nil, List.length_take, List.length_drop, bs_length]; omega))))
        | (with_reducible refine lenR_sl ?_)
        | (with_reducible refine lenR_nils ?_)
        | (with_reducible refine lenR_rsl ?_)
        | (with_reducible refine rowsR_sl ?_)
        | (with_reducible refine rowsR_nils ?_)
        | (with_reducible refine rowsR_rsl ?_)
        | (with_reducible refine lenR_slx ?_)
        | (with_reducible refine rowsR_slx ?_)
        | (with_reducible refine appendR_slx ?_ ?_ ?_)
        | ((with_reducible apply bytesR_intro) ; (focus (first | rfl | (simp only [bs_take, bs_drop, bs_append]; rfl))))
        | ((with_reducible apply nthR_bs) ; (focus (first | omega | (simp only [List.length_append, List.length_cons, List.length_nil, List.length_take, List.length_drop, bs_length]; omega))))
        | (with_reducible intro _)
        ))
        )
      all_goals (conv => whnf)
      all_goals (try dsimp only)
      refine RWrite_call (rof t) (rC t) (rD t) (rN t) (rP t) (by omega) (by omega) hdd (Looks.ownis hca) (Looks.owndat hda) fun H7 y hg7 hy hyn => ?_
      cases hw : swOk (rof t) (rC t) (rD t) (rN t) (rP t)
      · have h0 : srOk t = false := by rw [eO, hw]; rfl
        obtain ⟨r1, r2, r3⟩ := sr_no h0
        rw [r1, r1, r1, r2, r3, h0, show swE (rof t) (rC t) (rD t) (rN t) (rP t) = 1 from by rw [swE, hw]; rfl]
        repeat' (first
          | ((with_reducible apply Gr.side) ; with_reducible assumption)
          | ((with_reducible apply Gr.side) ; (repeat (first | exact Gr.refl _ _ | assumption | with_reducible refine Gr.trans ?_ (Gr.boxN _ _ _ _ _) | refine Gr.setNew ?_ (by first | exact Nat.le_refl _ | (simp only [newB_length, List.length_set, List.length_append, List.length_singleton]; omega) | omega) _ | refine Gr.addN ?_ _ | refine Gr.newN ?_ _ _ _ | exact Gr.trans (by assumption) (by assumption) | refine Gr.trans ?_ (by assumption) | refine Gr.trans (by assumption) ?_)) ; (first | done | fail))
          | ((with_reducible refine Side.intro ?_) <;> (first
          | with_reducible rfl
          | omega
          | assumption
          | exact Nat.le_of_ble_eq_true rfl
          | (simp only [bs_length, List.length_append, List.length_cons, List.length_nil, List.length_take, List.length_drop, List.length_set, List.length_replicate]; omega)
          | exact .inl (by omega)
          | exact .inr (.inl ⟨rfl, by (simp only [bs_length, List.length_append, List.length_cons, List.length_nil, List.length_take, List.length_drop, List.length_set, List.length_replicate]; omega)⟩)
          | exact Ref.ok_refl _ _
          | (simp only [List.append_nil, List.nil_append, List.map_nil]; first | exact List.nodup_nil | exact nodup_bid1 _ | exact nodup_bid2 (by assumption))
          | ((first | refine fresh_tup ?_ | skip); (repeat (first | exact fresh_datT _ |  exact FreshA.sl _ _ FreshA_bs | exact FreshA.sl _ _ FreshA_is | exact FreshA.nils | exact FreshA.nilp | exact FreshA.int _ _ | exact FreshA.bool _ | exact FreshA.str _ | exact fresh_nil | refine fresh_cons ?_ ?_ | with_reducible refine fresh_aggR ?_ | with_reducible refine fresh_agg ?_ | with_reducible exact fresh_nilA | with_reducible refine fresh_consA ?_ ?_)); done)
          | exact rfl
          | (simp; done)
          ))
          | ((conv => whnf) <;> (first
          | (with_reducible refine and_same ?_)
          | (with_reducible refine and_side ?_ ?_)
          | (with_reducible refine Br.yes rfl ?_)
          | ((with_reducible apply Br.yes) ; (focus omega))
          | ((with_reducible apply Br.no) ; (focus omega))
          | ((with_reducible apply Br.no) ; (focus assumption))
          | ((with_reducible apply Br.yes) ; (focus assumption))
          | ((with_reducible apply Br.yes) ; (focus ((with_reducible refine And.intro ?_ ?_) ; (repeat' (first | with_reducible rfl | exact True.intro | with_reducible refine And.intro ?_ ?_ | omega | assumption)) ; (first | done | fail))))
          | (with_reducible refine Br.mk (fun _ => ?_) (fun _ => ?_))
          | (with_reducible refine Both.mk ?_ ?_)
          | ((with_reducible apply blkAt_intro) ; (focus (first
          | exact rfl
          | ((repeat (first
          | assumption
          | exact get_new
          | exact get_set (by assumption)
          | exact get_set get_new
          | with_reducible apply get_set
          | apply get_set
          | apply get_old
          | (apply get_set_ne; (focus (first | omega | (simp only [newB_length, List.length_set, List.length_append, List.length_singleton, List.length_nil]; omega))))
          )); done)
          )) ; (focus (first | rfl | assumption | omega)) ; (try dsimp only))
          | ((with_reducible apply nthR_dat) ; (focus assumption))
          | ((with_reducible apply nthR_bs1) ; (focus assumption))
          | ((with_reducible apply nthR_is1) ; (focus assumption))
          | ((with_reducible apply appendR_lit) ; (focus (first
          | exact rfl
          | ((repeat (first
          | assumption
          | exact get_new
          | exact get_set (by assumption)
          | exact get_set get_new
          | with_reducible apply get_set
          | apply get_set
          | apply get_old
          | (apply get_set_ne; (focus (first | omega | (simp only [newB_length, List.length_set, List.length_append, List.length_singleton, List.length_nil]; omega))))
          )); done)
          )) ; (focus (first | rfl | assumption)) ; (focus rfl) ; (focus rfl) ; (focus rfl) ; (focus (first | exact Nat.zero_le _ | omega | (simp; done) | (simp; omega))) ; (try dsimp only))
          | (with_reducible refine appendR_nil ?_ ?_)
          | ((with_reducible apply lenR_own) ; (focus assumption))
          | ((with_reducible apply lenR_own) ; (focus (apply Own.upTo ; (focus assumption) ; (repeat (first | exact Gr.refl _ _ | assumption | with_reducible refine Gr.trans ?_ (Gr.boxN _ _ _ _ _) | refine Gr.setNew ?_ (by first | exact Nat.le_refl _ | (simp only [newB_length, List.length_set, List.length_append, List.length_singleton]; omega) | omega) _ | refine Gr.addN ?_ _ | refine Gr.newN ?_ _ _ _ | exact Gr.trans (by assumption) (by assumption) | refine Gr.trans ?_ (by assumption) | refine Gr.trans (by assumption) ?_)) ; (first | done | fail))))
          | ((with_reducible apply rowsR_own) ; (focus assumption))
          | ((with_reducible apply rowsR_own) ; (focus (apply Own.upTo ; (focus assumption) ; (repeat (first | exact Gr.refl _ _ | assumption | with_reducible refine Gr.trans ?_ (Gr.boxN _ _ _ _ _) | refine Gr.setNew ?_ (by first | exact Nat.le_refl _ | (simp only [newB_length, List.length_set, List.length_append, List.length_singleton]; omega) | omega) _ | refine Gr.addN ?_ _ | refine Gr.newN ?_ _ _ _ | exact Gr.trans (by assumption) (by assumption) | refine Gr.trans ?_ (by assumption) | refine Gr.trans (by assumption) ?_)) ; (first | done | fail))))
          | ((with_reducible apply ia_own) ; (focus assumption))
          | ((with_reducible apply ia_own) ; (focus (apply Own.upTo ; (focus assumption) ; (repeat (first | exact Gr.refl _ _ | assumption | with_reducible refine Gr.trans ?_ (Gr.boxN _ _ _ _ _) | refine Gr.setNew ?_ (by first | exact Nat.le_refl _ | (simp only [newB_length, List.length_set, List.length_append, List.length_singleton]; omega) | omega) _ | refine Gr.addN ?_ _ | refine Gr.newN ?_ _ _ _ | exact Gr.trans (by assumption) (by assumption) | refine Gr.trans ?_ (by assumption) | refine Gr.trans (by assumption) ?_)) ; (first | done | fail))))
          | (with_reducible refine ia_sl ?_ ?_)
          | (with_reducible refine IaW.of ?_)
          | (with_reducible refine SliceW.of ?_)
          | ((with_reducible apply AppC.raw) ; (focus assumption))
          | (with_reducible refine AppC.frz ?_)
          | (with_reducible refine EqnW.of ?_)
          | (with_reducible refine CopyW.of ?_)
          | ((with_reducible apply out_own) ; (focus assumption))
          | (with_reducible refine OutW.of ?_)
          | ((with_reducible apply NOut.own) ; (focus assumption))
          | (with_reducible refine NOut.lit ?_)
          | (with_reducible refine nthR_z ?_)
          | ((with_reducible apply nthR_left) ; (focus (first | omega | (simp only [List.length_append, List.length_cons, List.length_nil, List.length_take, List.length_drop, bs_length]; omega))))
          | (with_reducible refine lenR_sl ?_)
          | (with_reducible refine lenR_nils ?_)
          | (with_reducible refine lenR_rsl ?_)
          | (with_reducible refine rowsR_sl ?_)
          | (with_reducible refine rowsR_nils ?_)
          | (with_reducible refine rowsR_rsl ?_)
          | (with_reducible refine lenR_slx ?_)
          | (with_reducible refine rowsR_slx ?_)
          | (with_reducible refine appendR_slx ?_ ?_ ?_)
          | ((with_reducible apply bytesR_intro) ; (focus (first | rfl | (simp only [bs_take, bs_drop, bs_append]; rfl))))
          | ((with_reducible apply nthR_bs) ; (focus (first | omega | (simp only [List.length_append, List.length_cons, List.length_nil, List.length_take, List.length_drop, bs_length]; omega))))
          | (with_reducible intro _)
          ))
          )
        all_goals (conv => whnf)
        all_goals (try dsimp only)
        exact ret_nil23
      · rw [show swE (rof t) (rC t) (rD t) (rN t) (rP t) = 0 from by rw [swE, hw]; rfl]
        have hwl : (swR (rof t) (rC t) (rD t) (rN t) (rP t)).length ≤ 4611686018 := by rw [swR_len hw]; omega
        by_cases he : swR (rof t) (rC t) (rD t) (rN t) (rP t) = t
        · have h0 : srOk t = true := by rw [eO, hw, decide_eq_true he]; rfl
          obtain ⟨r1, r2, r3⟩ := sr_yes h0
          rw [r1, r1, r1, r2, r3, h0]
          rw [he] at hy
          replace hca := hca.keepN hg7
          replace hda := hda.keepN hg7
          have hnd : ∀ id, ca.bid = some id → da.bid ≠ some id := fun id h1 h2 => by
            rcases hdj with q | q
            · rw [q] at h1; cases h1
            · exact q (by rw [h1, h2])
          have hself : ¬ (t ≠ t) := fun h => h rfl
          repeat' (first
            | ((with_reducible apply Gr.side) ; with_reducible assumption)
            | ((with_reducible apply Gr.side) ; (repeat (first | exact Gr.refl _ _ | assumption | with_reducible refine Gr.trans ?_ (Gr.boxN _ _ _ _ _) | refine Gr.setNew ?_ (by first | exact Nat.le_refl _ | (simp only [newB_length, List.length_set, List.length_append, List.length_singleton]; omega) | omega) _ | refine Gr.addN ?_ _ | refine Gr.newN ?_ _ _ _ | exact Gr.trans (by assumption) (by assumption) | refine Gr.trans ?_ (by assumption) | refine Gr.trans (by assumption) ?_)) ; (first | done | fail))
            | ((with_reducible refine Side.intro ?_) <;> (first
            | with_reducible rfl
            | omega
            | assumption
            | exact Nat.le_of_ble_eq_true rfl
            | (simp only [bs_length, List.length_append, List.length_cons, List.length_nil, List.length_take, List.length_drop, List.length_set, List.length_replicate]; omega)
            | exact .inl (by omega)
            | exact .inr (.inl ⟨rfl, by (simp only [bs_length, List.length_append, List.length_cons, List.length_nil, List.length_take, List.length_drop, List.length_set, List.length_replicate]; omega)⟩)
            | exact Ref.ok_refl _ _
            | (simp only [List.append_nil, List.nil_append, List.map_nil]; first | exact List.nodup_nil | exact nodup_bid1 _ | exact nodup_bid2 (by assumption))
            | ((first | refine fresh_tup ?_ | skip); (repeat (first | exact fresh_datT _ |  exact FreshA.sl _ _ FreshA_bs | exact FreshA.sl _ _ FreshA_is | exact FreshA.nils | exact FreshA.nilp | exact FreshA.int _ _ | exact FreshA.bool _ | exact FreshA.str _ | exact fresh_nil | refine fresh_cons ?_ ?_ | with_reducible refine fresh_aggR ?_ | with_reducible refine fresh_agg ?_ | with_reducible exact fresh_nilA | with_reducible refine fresh_consA ?_ ?_)); done)
            | exact rfl
            | (simp; done)
            ))
            | ((conv => whnf) <;> (first
            | (with_reducible refine and_same ?_)
            | (with_reducible refine and_side ?_ ?_)
            | (with_reducible refine Br.yes rfl ?_)
            | ((with_reducible apply Br.yes) ; (focus omega))
            | ((with_reducible apply Br.no) ; (focus omega))
            | ((with_reducible apply Br.no) ; (focus assumption))
            | ((with_reducible apply Br.yes) ; (focus assumption))
            | ((with_reducible apply Br.yes) ; (focus ((with_reducible refine And.intro ?_ ?_) ; (repeat' (first | with_reducible rfl | exact True.intro | with_reducible refine And.intro ?_ ?_ | omega | assumption)) ; (first | done | fail))))
            | (with_reducible refine Br.mk (fun _ => ?_) (fun _ => ?_))
            | (with_reducible refine Both.mk ?_ ?_)
            | ((with_reducible apply blkAt_intro) ; (focus (first
            | exact rfl
            | ((repeat (first
            | assumption
            | exact get_new
            | exact get_set (by assumption)
            | exact get_set get_new
            | with_reducible apply get_set
            | apply get_set
            | apply get_old
            | (apply get_set_ne; (focus (first | omega | (simp only [newB_length, List.length_set, List.length_append, List.length_singleton, List.length_nil]; omega))))
            )); done)
            )) ; (focus (first | rfl | assumption | omega)) ; (try dsimp only))
            | ((with_reducible apply nthR_dat) ; (focus assumption))
            | ((with_reducible apply nthR_bs1) ; (focus assumption))
            | ((with_reducible apply nthR_is1) ; (focus assumption))
            | ((with_reducible apply appendR_lit) ; (focus (first
            | exact rfl
            | ((repeat (first
            | assumption
            | exact get_new
            | exact get_set (by assumption)
            | exact get_set get_new
            | with_reducible apply get_set
            | apply get_set
            | apply get_old
            | (apply get_set_ne; (focus (first | omega | (simp only [newB_length, List.length_set, List.length_append, List.length_singleton, List.length_nil]; omega))))
            )); done)
            )) ; (focus (first | rfl | assumption)) ; (focus rfl) ; (focus rfl) ; (focus rfl) ; (focus (first | exact Nat.zero_le _ | omega | (simp; done) | (simp; omega))) ; (try dsimp only))
            | (with_reducible refine appendR_nil ?_ ?_)
            | ((with_reducible apply lenR_own) ; (focus assumption))
            | ((with_reducible apply lenR_own) ; (focus (apply Own.upTo ; (focus assumption) ; (repeat (first | exact Gr.refl _ _ | assumption | with_reducible refine Gr.trans ?_ (Gr.boxN _ _ _ _ _) | refine Gr.setNew ?_ (by first | exact Nat.le_refl _ | (simp only [newB_length, List.length_set, List.length_append, List.length_singleton]; omega) | omega) _ | refine Gr.addN ?_ _ | refine Gr.newN ?_ _ _ _ | exact Gr.trans (by assumption) (by assumption) | refine Gr.trans ?_ (by assumption) | refine Gr.trans (by assumption) ?_)) ; (first | done | fail))))
            | ((with_reducible apply rowsR_own) ; (focus assumption))
            | ((with_reducible apply rowsR_own) ; (focus (apply Own.upTo ; (focus assumption) ; (repeat (first | exact Gr.refl _ _ | assumption | with_reducible refine Gr.trans ?_ (Gr.boxN _ _ _ _ _) | refine Gr.setNew ?_ (by first | exact Nat.le_refl _ | (simp only [newB_length, List.length_set, List.length_append, List.length_singleton]; omega) | omega) _ | refine Gr.addN ?_ _ | refine Gr.newN ?_ _ _ _ | exact Gr.trans (by assumption) (by assumption) | refine Gr.trans ?_ (by assumption) | refine Gr.trans (by assumption) ?_)) ; (first | done | fail))))
            | ((with_reducible apply ia_own) ; (focus assumption))
            | ((with_reducible apply ia_own) ; (focus (apply Own.upTo ; (focus assumption) ; (repeat (first | exact Gr.refl _ _ | assumption | with_reducible refine Gr.trans ?_ (Gr.boxN _ _ _ _ _) | refine Gr.setNew ?_ (by first | exact Nat.le_refl _ | (simp only [newB_length, List.length_set, List.length_append, List.length_singleton]; omega) | omega) _ | refine Gr.addN ?_ _ | refine Gr.newN ?_ _ _ _ | exact Gr.trans (by assumption) (by assumption) | refine Gr.trans ?_ (by assumption) | refine Gr.trans (by assumption) ?_)) ; (first | done | fail))))
            | (with_reducible refine ia_sl ?_ ?_)
            | (with_reducible refine IaW.of ?_)
            | (with_reducible refine SliceW.of ?_)
            | ((with_reducible apply AppC.raw) ; (focus assumption))
            | (with_reducible refine AppC.frz ?_)
            | (with_reducible refine EqnW.of ?_)
            | (with_reducible refine CopyW.of ?_)
            | ((with_reducible apply out_own) ; (focus assumption))
            | (with_reducible refine OutW.of ?_)
            | ((with_reducible apply NOut.own) ; (focus assumption))
            | (with_reducible refine NOut.lit ?_)
            | (with_reducible refine nthR_z ?_)
            | ((with_reducible apply nthR_left) ; (focus (first | omega | (simp only [List.length_append, List.length_cons, List.length_nil, List.length_take, List.length_drop, bs_length]; omega))))
            | (with_reducible refine lenR_sl ?_)
            | (with_reducible refine lenR_nils ?_)
            | (with_reducible refine lenR_rsl ?_)
            | (with_reducible refine rowsR_sl ?_)
            | (with_reducible refine rowsR_nils ?_)
            | (with_reducible refine rowsR_rsl ?_)
            | (with_reducible refine lenR_slx ?_)
            | (with_reducible refine rowsR_slx ?_)
            | (with_reducible refine appendR_slx ?_ ?_ ?_)
            | ((with_reducible apply bytesR_intro) ; (focus (first | rfl | (simp only [bs_take, bs_drop, bs_append]; rfl))))
            | ((with_reducible apply nthR_bs) ; (focus (first | omega | (simp only [List.length_append, List.length_cons, List.length_nil, List.length_take, List.length_drop, bs_length]; omega))))
            | (with_reducible intro _)
            ))
            )
          all_goals (conv => whnf)
          all_goals (try dsimp only)
          all_goals first
            | exact ret_same rfl
            | trace_state
        · have h0 : srOk t = false := by rw [eO, hw, decide_eq_false he]; rfl
          obtain ⟨r1, r2, r3⟩ := sr_no h0
          rw [r1, r1, r1, r2, r3, h0]
          repeat' (first
            | ((with_reducible apply Gr.side) ; with_reducible assumption)
            | ((with_reducible apply Gr.side) ; (repeat (first | exact Gr.refl _ _ | assumption | with_reducible refine Gr.trans ?_ (Gr.boxN _ _ _ _ _) | refine Gr.setNew ?_ (by first | exact Nat.le_refl _ | (simp only [newB_length, List.length_set, List.length_append, List.length_singleton]; omega) | omega) _ | refine Gr.addN ?_ _ | refine Gr.newN ?_ _ _ _ | exact Gr.trans (by assumption) (by assumption) | refine Gr.trans ?_ (by assumption) | refine Gr.trans (by assumption) ?_)) ; (first | done | fail))
            | ((with_reducible refine Side.intro ?_) <;> (first
            | with_reducible rfl
            | omega
            | assumption
            | exact Nat.le_of_ble_eq_true rfl
            | (simp only [bs_length, List.length_append, List.length_cons, List.length_nil, List.length_take, List.length_drop, List.length_set, List.length_replicate]; omega)
            | exact .inl (by omega)
            | exact .inr (.inl ⟨rfl, by (simp only [bs_length, List.length_append, List.length_cons, List.length_nil, List.length_take, List.length_drop, List.length_set, List.length_replicate]; omega)⟩)
            | exact Ref.ok_refl _ _
            | (simp only [List.append_nil, List.nil_append, List.map_nil]; first | exact List.nodup_nil | exact nodup_bid1 _ | exact nodup_bid2 (by assumption))
            | ((first | refine fresh_tup ?_ | skip); (repeat (first | exact fresh_datT _ |  exact FreshA.sl _ _ FreshA_bs | exact FreshA.sl _ _ FreshA_is | exact FreshA.nils | exact FreshA.nilp | exact FreshA.int _ _ | exact FreshA.bool _ | exact FreshA.str _ | exact fresh_nil | refine fresh_cons ?_ ?_ | with_reducible refine fresh_aggR ?_ | with_reducible refine fresh_agg ?_ | with_reducible exact fresh_nilA | with_reducible refine fresh_consA ?_ ?_)); done)
            | exact rfl
            | (simp; done)
            ))
            | ((conv => whnf) <;> (first
            | (with_reducible refine and_same ?_)
            | (with_reducible refine and_side ?_ ?_)
            | (with_reducible refine Br.yes rfl ?_)
            | ((with_reducible apply Br.yes) ; (focus omega))
            | ((with_reducible apply Br.no) ; (focus omega))
            | ((with_reducible apply Br.no) ; (focus assumption))
            | ((with_reducible apply Br.yes) ; (focus assumption))
            | ((with_reducible apply Br.yes) ; (focus ((with_reducible refine And.intro ?_ ?_) ; (repeat' (first | with_reducible rfl | exact True.intro | with_reducible refine And.intro ?_ ?_ | omega | assumption)) ; (first | done | fail))))
            | (with_reducible refine Br.mk (fun _ => ?_) (fun _ => ?_))
            | (with_reducible refine Both.mk ?_ ?_)
            | ((with_reducible apply blkAt_intro) ; (focus (first
            | exact rfl
            | ((repeat (first
            | assumption
            | exact get_new
            | exact get_set (by assumption)
            | exact get_set get_new
            | with_reducible apply get_set
            | apply get_set
            | apply get_old
            | (apply get_set_ne; (focus (first | omega | (simp only [newB_length, List.length_set, List.length_append, List.length_singleton, List.length_nil]; omega))))
            )); done)
            )) ; (focus (first | rfl | assumption | omega)) ; (try dsimp only))
            | ((with_reducible apply nthR_dat) ; (focus assumption))
            | ((with_reducible apply nthR_bs1) ; (focus assumption))
            | ((with_reducible apply nthR_is1) ; (focus assumption))
            | ((with_reducible apply appendR_lit) ; (focus (first
            | exact rfl
            | ((repeat (first
            | assumption
            | exact get_new
            | exact get_set (by assumption)
            | exact get_set get_new
            | with_reducible apply get_set
            | apply get_set
            | apply get_old
            | (apply get_set_ne; (focus (first | omega | (simp only [newB_length, List.length_set, List.length_append, List.length_singleton, List.length_nil]; omega))))
            )); done)
            )) ; (focus (first | rfl | assumption)) ; (focus rfl) ; (focus rfl) ; (focus rfl) ; (focus (first | exact Nat.zero_le _ | omega | (simp; done) | (simp; omega))) ; (try dsimp only))
            | (with_reducible refine appendR_nil ?_ ?_)
            | ((with_reducible apply lenR_own) ; (focus assumption))
            | ((with_reducible apply lenR_own) ; (focus (apply Own.upTo ; (focus assumption) ; (repeat (first | exact Gr.refl _ _ | assumption | with_reducible refine Gr.trans ?_ (Gr.boxN _ _ _ _ _) | refine Gr.setNew ?_ (by first | exact Nat.le_refl _ | (simp only [newB_length, List.length_set, List.length_append, List.length_singleton]; omega) | omega) _ | refine Gr.addN ?_ _ | refine Gr.newN ?_ _ _ _ | exact Gr.trans (by assumption) (by assumption) | refine Gr.trans ?_ (by assumption) | refine Gr.trans (by assumption) ?_)) ; (first | done | fail))))
            | ((with_reducible apply rowsR_own) ; (focus assumption))
            | ((with_reducible apply rowsR_own) ; (focus (apply Own.upTo ; (focus assumption) ; (repeat (first | exact Gr.refl _ _ | assumption | with_reducible refine Gr.trans ?_ (Gr.boxN _ _ _ _ _) | refine Gr.setNew ?_ (by first | exact Nat.le_refl _ | (simp only [newB_length, List.length_set, List.length_append, List.length_singleton]; omega) | omega) _ | refine Gr.addN ?_ _ | refine Gr.newN ?_ _ _ _ | exact Gr.trans (by assumption) (by assumption) | refine Gr.trans ?_ (by assumption) | refine Gr.trans (by assumption) ?_)) ; (first | done | fail))))
            | ((with_reducible apply ia_own) ; (focus assumption))
            | ((with_reducible apply ia_own) ; (focus (apply Own.upTo ; (focus assumption) ; (repeat (first | exact Gr.refl _ _ | assumption | with_reducible refine Gr.trans ?_ (Gr.boxN _ _ _ _ _) | refine Gr.setNew ?_ (by first | exact Nat.le_refl _ | (simp only [newB_length, List.length_set, List.length_append, List.length_singleton]; omega) | omega) _ | refine Gr.addN ?_ _ | refine Gr.newN ?_ _ _ _ | exact Gr.trans (by assumption) (by assumption) | refine Gr.trans ?_ (by assumption) | refine Gr.trans (by assumption) ?_)) ; (first | done | fail))))
            | (with_reducible refine ia_sl ?_ ?_)
            | (with_reducible refine IaW.of ?_)
            | (with_reducible refine SliceW.of ?_)
            | ((with_reducible apply AppC.raw) ; (focus assumption))
            | (with_reducible refine AppC.frz ?_)
            | (with_reducible refine EqnW.of ?_)
            | (with_reducible refine CopyW.of ?_)
            | ((with_reducible apply out_own) ; (focus assumption))
            | (with_reducible refine OutW.of ?_)
            | ((with_reducible apply NOut.own) ; (focus assumption))
            | (with_reducible refine NOut.lit ?_)
            | (with_reducible refine nthR_z ?_)
            | ((with_reducible apply nthR_left) ; (focus (first | omega | (simp only [List.length_append, List.length_cons, List.length_nil, List.length_take, List.length_drop, bs_length]; omega))))
            | (with_reducible refine lenR_sl ?_)
            | (with_reducible refine lenR_nils ?_)
            | (with_reducible refine lenR_rsl ?_)
            | (with_reducible refine rowsR_sl ?_)
            | (with_reducible refine rowsR_nils ?_)
            | (with_reducible refine rowsR_rsl ?_)
            | (with_reducible refine lenR_slx ?_)
            | (with_reducible refine rowsR_slx ?_)
            | (with_reducible refine appendR_slx ?_ ?_ ?_)
            | ((with_reducible apply bytesR_intro) ; (focus (first | rfl | (simp only [bs_take, bs_drop, bs_append]; rfl))))
            | ((with_reducible apply nthR_bs) ; (focus (first | omega | (simp only [List.length_append, List.length_cons, List.length_nil, List.length_take, List.length_drop, bs_length]; omega))))
            | (with_reducible intro _)
            ))
            )
          all_goals (conv => whnf)
          all_goals (try dsimp only)
          all_goals first
            | exact ret_nil23
            | trace_state
  · have h0 : srOk t = false := by rw [srOk, decide_eq_false hlen]; rfl
    obtain ⟨r1, r2, r3⟩ := sr_no h0
    rw [r1, r1, r1, r2, r3, h0]
    repeat' (first
      | ((with_reducible apply Gr.side) ; with_reducible assumption)
      | ((with_reducible apply Gr.side) ; (repeat (first | exact Gr.refl _ _ | assumption | with_reducible refine Gr.trans ?_ (Gr.boxN _ _ _ _ _) | refine Gr.setNew ?_ (by first | exact Nat.le_refl _ | (simp only [newB_length, List.length_set, List.length_append, List.length_singleton]; omega) | omega) _ | refine Gr.addN ?_ _ | refine Gr.newN ?_ _ _ _ | exact Gr.trans (by assumption) (by assumption) | refine Gr.trans ?_ (by assumption) | refine Gr.trans (by assumption) ?_)) ; (first | done | fail))
      | ((with_reducible refine Side.intro ?_) <;> (first
      | with_reducible rfl
      | omega
      | assumption
      | exact Nat.le_of_ble_eq_true rfl
      | (simp only [bs_length, List.length_append, List.length_cons, List.length_nil, List.length_take, List.length_drop, List.length_set, List.length_replicate]; omega)
      | exact .inl (by omega)
      | exact .inr (.inl ⟨rfl, by (simp only [bs_length, List.length_append, List.length_cons, List.length_nil, List.length_take, List.length_drop, List.length_set, List.length_replicate]; omega)⟩)
      | exact Ref.ok_refl _ _
      | (simp only [List.append_nil, List.nil_append, List.map_nil]; first | exact List.nodup_nil | exact nodup_bid1 _ | exact nodup_bid2 (by assumption))
      | ((first | refine fresh_tup ?_ | skip); (repeat (first | exact fresh_datT _ |  exact FreshA.sl _ _ FreshA_bs | exact FreshA.sl _ _ FreshA_is | exact FreshA.nils | exact FreshA.nilp | exact FreshA.int _ _ | exact FreshA.bool _ | exact FreshA.str _ | exact fresh_nil | refine fresh_cons ?_ ?_ | with_reducible refine fresh_aggR ?_ | with_reducible refine fresh_agg ?_ | with_reducible exact fresh_nilA | with_reducible refine fresh_consA ?_ ?_)); done)
      | exact rfl
      | (simp; done)
      ))
      | ((conv => whnf) <;> (first
      | (with_reducible refine and_same ?_)
      | (with_reducible refine and_side ?_ ?_)
      | (with_reducible refine Br.yes rfl ?_)
      | ((with_reducible apply Br.yes) ; (focus omega))
      | ((with_reducible apply Br.no) ; (focus omega))
      | ((with_reducible apply Br.no) ; (focus assumption))
      | ((with_reducible apply Br.yes) ; (focus assumption))
      | ((with_reducible apply Br.yes) ; (focus ((with_reducible refine And.intro ?_ ?_) ; (repeat' (first | with_reducible rfl | exact True.intro | with_reducible refine And.intro ?_ ?_ | omega | assumption)) ; (first | done | fail))))
      | (with_reducible refine Br.mk (fun _ => ?_) (fun _ => ?_))
      | (with_reducible refine Both.mk ?_ ?_)
      | ((with_reducible apply blkAt_intro) ; (focus (first
      | exact rfl
      | ((repeat (first
      | assumption
      | exact get_new
      | exact get_set (by assumption)
      | exact get_set get_new
      | with_reducible apply get_set
      | apply get_set
      | apply get_old
      | (apply get_set_ne; (focus (first | omega | (simp only [newB_length, List.length_set, List.length_append, List.length_singleton, List.length_nil]; omega))))
      )); done)
      )) ; (focus (first | rfl | assumption | omega)) ; (try dsimp only))
      | ((with_reducible apply nthR_dat) ; (focus assumption))
      | ((with_reducible apply nthR_bs1) ; (focus assumption))
      | ((with_reducible apply nthR_is1) ; (focus assumption))
      | ((with_reducible apply appendR_lit) ; (focus (first
      | exact rfl
      | ((repeat (first
      | assumption
      | exact get_new
      | exact get_set (by assumption)
      | exact get_set get_new
      | with_reducible apply get_set
      | apply get_set
      | apply get_old
      | (apply get_set_ne; (focus (first | omega | (simp only [newB_length, List.length_set, List.length_append, List.length_singleton, List.length_nil]; omega))))
      )); done)
      )) ; (focus (first | rfl | assumption)) ; (focus rfl) ; (focus rfl) ; (focus rfl) ; (focus (first | exact Nat.zero_le _ | omega | (simp; done) | (simp; omega))) ; (try dsimp only))
      | (with_reducible refine appendR_nil ?_ ?_)
      | ((with_reducible apply lenR_own) ; (focus assumption))
      | ((with_reducible apply lenR_own) ; (focus (apply Own.upTo ; (focus assumption) ; (repeat (first | exact Gr.refl _ _ | assumption | with_reducible refine Gr.trans ?_ (Gr.boxN _ _ _ _ _) | refine Gr.setNew ?_ (by first | exact Nat.le_refl _ | (simp only [newB_length, List.length_set, List.length_append, List.length_singleton]; omega) | omega) _ | refine Gr.addN ?_ _ | refine Gr.newN ?_ _ _ _ | exact Gr.trans (by assumption) (by assumption) | refine Gr.trans ?_ (by assumption) | refine Gr.trans (by assumption) ?_)) ; (first | done | fail))))
      | ((with_reducible apply rowsR_own) ; (focus assumption))
      | ((with_reducible apply rowsR_own) ; (focus (apply Own.upTo ; (focus assumption) ; (repeat (first | exact Gr.refl _ _ | assumption | with_reducible refine Gr.trans ?_ (Gr.boxN _ _ _ _ _) | refine Gr.setNew ?_ (by first | exact Nat.le_refl _ | (simp only [newB_length, List.length_set, List.length_append, List.length_singleton]; omega) | omega) _ | refine Gr.addN ?_ _ | refine Gr.newN ?_ _ _ _ | exact Gr.trans (by assumption) (by assumption) | refine Gr.trans ?_ (by assumption) | refine Gr.trans (by assumption) ?_)) ; (first | done | fail))))
      | ((with_reducible apply ia_own) ; (focus assumption))
      | ((with_reducible apply ia_own) ; (focus (apply Own.upTo ; (focus assumption) ; (repeat (first | exact Gr.refl _ _ | assumption | with_reducible refine Gr.trans ?_ (Gr.boxN _ _ _ _ _) | refine Gr.setNew ?_ (by first | exact Nat.le_refl _ | (simp only [newB_length, List.length_set, List.length_append, List.length_singleton]; omega) | omega) _ | refine Gr.addN ?_ _ | refine Gr.newN ?_ _ _ _ | exact Gr.trans (by assumption) (by assumption) | refine Gr.trans ?_ (by assumption) | refine Gr.trans (by assumption) ?_)) ; (first | done | fail))))
      | (with_reducible refine ia_sl ?_ ?_)
      | (with_reducible refine IaW.of ?_)
      | (with_reducible refine SliceW.of ?_)
      | ((with_reducible apply AppC.raw) ; (focus assumption))
      | (with_reducible refine AppC.frz ?_)
      | (with_reducible refine EqnW.of ?_)
      | (with_reducible refine CopyW.of ?_)
      | ((with_reducible apply out_own) ; (focus assumption))
      | (with_reducible refine OutW.of ?_)
      | ((with_reducible apply NOut.own) ; (focus assumption))
      | (with_reducible refine NOut.lit ?_)
      | (with_reducible refine nthR_z ?_)
      | ((with_reducible apply nthR_left) ; (focus (first | omega | (simp only [List.length_append, List.length_cons, List.length_nil, List.length_take, List.length_drop, bs_length]; omega))))
      | (with_reducible refine lenR_sl ?_)
      | (with_reducible refine lenR_nils ?_)
      | (with_reducible refine lenR_rsl ?_)
      | (with_reducible refine rowsR_sl ?_)
      | (with_reducible refine rowsR_nils ?_)
      | (with_reducible refine rowsR_rsl ?_)
      | (with_reducible refine lenR_slx ?_)
      | (with_reducible refine rowsR_slx ?_)
      | (with_reducible refine appendR_slx ?_ ?_ ?_)
      | ((with_reducible apply bytesR_intro) ; (focus (first | rfl | (simp only [bs_take, bs_drop, bs_append]; rfl))))
      | ((with_reducible apply nthR_bs) ; (focus (first | omega | (simp only [List.length_append, List.length_cons, List.length_nil, List.length_take, List.length_drop, bs_length]; omega))))
      | (with_reducible intro _)
      ))
      )
    all_goals (conv => whnf)
    all_goals (try dsimp only)
    exact ret_nil23
theorem RRead_call (t : List UInt8) (hs : t.length ≤ 4611686018) {σ : AH} {x : AV} (hx : Looks σ x (.sl 1 (bs t) false)) {Q : AV → AH → Prop}
    (h : ∀ σ' c d, Gr σ σ' none → Own σ' 1 c (is (srC t)) → Own σ' 1 d (datT (srD t)) → New σ c → New σ d → (c.bid = none ∨ c.bid ≠ d.bid) → Q (.tup [.int .i64 (srI t (rof t)), c, d, .int .i64 (srI t (rN t)), .int .i64 (srI t (rP t)), .bool (srOk t)]) σ') : CallS Try.prog F.joistref15_Read [x] σ Q :=
  call_six (RRead_ok t hs) (.cons hx .nil) rfl rfl rfl rfl h
end Go.Proofs.Ytabdieanlhecoaa
