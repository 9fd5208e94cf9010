import Derived.Test.YtjjmcpnbaahkgaaPshape
import Derived.Test.YtjjmcpnbaahkgaaPcalls
namespace Go.Proofs.Ytjjmcpnbaahkgaa
open Go Go.Proofs.Ytjjmcpnbaahkgaa.V
set_option maxRecDepth 20000
attribute [local irreducible] CallS AOK AOKn ALoop Side Ref.ok
def logB (m f o n : Int) : Bool := decide (1 ≤ o ∧ o ≤ 4096 ∧ 0 ≤ f ∧ f ≤ n ∧ 2 * o ≤ n - f ∧ 0 ≤ m ∧ m < n ∧ (m < f ∨ 2 * o ≤ m - f))
def logA (m f o : Int) : AV := .agg [.int .i64 m, .int .i64 f, .int .i64 o]
theorem walRight_ok (m f o n : Int) (hn : 0 ≤ n ∧ n ≤ 1000000) : AOKn Try.prog F.wal_Right [logA m f o, .int .i64 n] fun y => y = .bool (logB m f o n) := by
  unfold logA
  refine AOKn.by_steps mixed fc_wal_Right_ok (by simp [fc_wal_Right]) ?_
  repeat' (first
    | ((with_reducible refine Side.intro ?_) <;> (first
    | (simp only [List.append_nil, List.nil_append, List.map_nil]; first | exact List.nodup_nil | exact nodup_bid1 _ | exact nodup_bid2 (by assumption))
    | ((first | refine fresh_tup ?_ | skip); (repeat (first |  exact FreshA.sl _ _ FreshA_bs | exact FreshA.sl _ _ FreshA_is | exact FreshA.nils | exact FreshA.nilp | exact FreshA.int _ _ | exact FreshA.bool _ | exact FreshA.str _ | exact fresh_nil | refine fresh_cons ?_ ?_ | with_reducible refine fresh_aggR ?_ | with_reducible refine fresh_agg ?_ | with_reducible exact fresh_nilA | with_reducible refine fresh_consA ?_ ?_)); done)
    | exact rfl
    ))
    | ((conv => whnf) <;> (first
    | (with_reducible refine and_same ?_)
    | (with_reducible refine and_side ?_ ?_)
    | (with_reducible refine Br.yes (by omega) ?_)
    | (with_reducible refine Br.mk (fun _ => ?_) (fun _ => ?_))
    | ((with_reducible apply blkAt_intro) ; (focus (first
    | exact rfl
    )) ; (focus (first | rfl | assumption | omega)) ; (try dsimp only))
    | (with_reducible refine NOut.lit ?_)
    ))
    )
  all_goals (conv => whnf)
  all_goals (try dsimp only)
  all_goals first
    | exact ret_bool (decide_eq_true (by omega)).symm
    | exact ret_bool (decide_eq_false (by omega)).symm
    | trace_state
theorem walRight_call (m f o n : Int) (hn : 0 ≤ n ∧ n ≤ 1000000) {σ : AH} {Q : AV → AH → Prop} (h : ∀ σ', Gr σ σ' none → Q (.bool (logB m f o n)) σ') : CallS Try.prog F.wal_Right [logA m f o, .int .i64 n] σ Q := by
  refine (walRight_ok m f o n hn).call (.cons (.same rfl) (.cons (.int _ _ _) .nil)) ?_
  rintro _ x σ1 rfl hg hG
  obtain rfl := hG.flat_inv rfl (by intros; simp)
  exact h σ1 hg
def okA (p s r o : Int) : Bool := sizedB p s r o && decide (lines p s r o ≤ 4096)
def noA : AV := .agg [.int .i64 0, .int .i64 0, .int .i64 0, .int .i64 0, .int .i64 0, .int .i64 0, .int .i64 0, .int .i64 0, .int .i64 0]
def arR (p s r o : Int) : AV := if okA p s r o then areasL p s r o else noA
def arE (p s r o : Int) : Int := if okA p s r o then 0 else 1
def outB (p s r o l : Int) : Bool := okA p s r o && decide (0 ≤ l ∧ l < lines p s r o ∧ (l < 2 ∨ 2 + 2 * o ≤ l))
theorem sizedB_iff {p s r o : Int} : sizedB p s r o = true ↔ (1 ≤ p ∧ p ≤ 64 ∧ 1 ≤ o ∧ o ≤ 4096 ∧ 2 ≤ s ∧ s ≤ 32 ∧ s % 2 = 0 ∧ 2 ≤ r ∧ r ≤ 8 ∧ r % 2 = 0) := by simp [sizedB]
theorem okA_iff {p s r o : Int} : okA p s r o = true ↔ (sizedB p s r o = true ∧ lines p s r o ≤ 4096) := by simp [okA]
theorem Areas_ok (p s r o : Int) : AOKn Try.prog F.shape_Areas [shp p s r o] fun y => y = .tup [arR p s r o, .int .i64 (arE p s r o)] := by
  unfold shp
  refine AOKn.by_steps mixed fc_shape_Areas_ok (by simp [fc_shape_Areas]) ?_
  repeat' (first
    | ((with_reducible refine Side.intro ?_) <;> (first
    | exact Nat.le_of_ble_eq_true rfl
    | exact rfl
    ))
    | ((conv => whnf) <;> (first
    | (with_reducible refine and_side ?_ ?_)
    | ((with_reducible apply blkAt_intro) ; (focus (first
    | exact rfl
    )) ; (focus (first | rfl | assumption | omega)) ; (try dsimp only))
    ))
    )
  all_goals (conv => whnf)
  all_goals (try dsimp only)
  refine call_one (sized_ok p s r o) (.cons (.same rfl) .nil) rfl fun H1 hg1 => ?_
  have b0 := hg1.2 0 _ rfl (by simp)
  have b1 := hg1.2 1 _ rfl (by simp)
  cases hb : sizedB p s r o
  · have ho : okA p s r o = false := by simp [okA, hb]
    simp only [arR, arE, ho]
    repeat' (first
      | ((with_reducible refine Side.intro ?_) <;> (first
      | exact Nat.le_of_ble_eq_true rfl
      | (simp only [List.append_nil, List.nil_append, List.map_nil]; first | exact List.nodup_nil | exact nodup_bid1 _ | exact nodup_bid2 (by assumption))
      | ((first | refine fresh_tup ?_ | skip); (repeat (first |  exact FreshA.sl _ _ FreshA_bs | exact FreshA.sl _ _ FreshA_is | exact FreshA.nils | exact FreshA.nilp | exact FreshA.int _ _ | exact FreshA.bool _ | exact FreshA.str _ | exact fresh_nil | refine fresh_cons ?_ ?_ | with_reducible refine fresh_aggR ?_ | with_reducible refine fresh_agg ?_ | with_reducible exact fresh_nilA | with_reducible refine fresh_consA ?_ ?_)); done)
      | exact rfl
      ))
      | ((conv => whnf) <;> (first
      | (with_reducible refine and_same ?_)
      | (with_reducible refine and_side ?_ ?_)
      | ((with_reducible apply blkAt_intro) ; (focus (first
      | ((repeat (first
      | assumption
      | exact get_set (by assumption)
      )); done)
      )) ; (focus (first | rfl | assumption | omega)) ; (try dsimp only))
      | (with_reducible refine NOut.lit ?_)
      ))
      )
    all_goals (conv => whnf)
    all_goals (try dsimp only)
    exact ret_same rfl
  · have hq := sizedB_iff.1 hb
    repeat' (first
      | ((with_reducible refine Side.intro ?_) <;> (first
      | exact Nat.le_of_ble_eq_true rfl
      ))
      | ((conv => whnf) <;> (first
      | (with_reducible refine and_side ?_ ?_)
      | ((with_reducible apply blkAt_intro) ; (focus (first
      | ((repeat (first
      | assumption
      )); done)
      )) ; (focus (first | rfl | assumption | omega)) ; (try dsimp only))
      ))
      )
    all_goals (conv => whnf)
    all_goals (try dsimp only)
    refine call_one (lay_ok p s r o hb) (.cons (.same rfl) .nil) rfl fun H2 hg2 => ?_
    have c1 := hg2.2 1 _ b1 (by simp)
    have l2 := (List.getElem?_eq_some_iff.1 c1).1
    unfold areasL
    generalize hL : lines p s r o = L at *
    have hl : L ≤ 20000 ∧ 30 + 2 * o ≤ L := by unfold lines at hL; omega
    repeat' (first
      | ((with_reducible refine Side.intro ?_) <;> (first
      | exact Nat.le_of_ble_eq_true rfl
      | (simp only [List.append_nil, List.nil_append, List.map_nil]; first | exact List.nodup_nil | exact nodup_bid1 _ | exact nodup_bid2 (by assumption))
      | ((first | refine fresh_tup ?_ | skip); (repeat (first |  exact FreshA.sl _ _ FreshA_bs | exact FreshA.sl _ _ FreshA_is | exact FreshA.nils | exact FreshA.nilp | exact FreshA.int _ _ | exact FreshA.bool _ | exact FreshA.str _ | exact fresh_nil | refine fresh_cons ?_ ?_ | with_reducible refine fresh_aggR ?_ | with_reducible refine fresh_agg ?_ | with_reducible exact fresh_nilA | with_reducible refine fresh_consA ?_ ?_)); done)
      | exact rfl
      ))
      | ((conv => whnf) <;> (first
      | (with_reducible refine and_same ?_)
      | (with_reducible refine and_side ?_ ?_)
      | (with_reducible refine Br.mk (fun _ => ?_) (fun _ => ?_))
      | ((with_reducible apply blkAt_intro) ; (focus (first
      | ((repeat (first
      | assumption
      | exact get_new
      | exact get_set get_new
      | with_reducible apply get_set
      | apply get_old
      | (apply get_set_ne; (focus (first | omega | (simp only [newB_length, List.length_set, List.length_append, List.length_singleton, List.length_nil]; omega))))
      )); done)
      )) ; (focus (first | rfl | assumption | omega)) ; (try dsimp only))
      | (with_reducible refine NOut.lit ?_)
      ))
      )
    all_goals (conv => whnf)
    all_goals (try dsimp only)
    · have ho : okA p s r o = false := by simp only [okA, hb, Bool.true_and, decide_eq_false_iff_not]; omega
      simp only [arR, arE, ho]
      exact ret_same rfl
    · have ho : okA p s r o = true := okA_iff.2 ⟨hb, by omega⟩
      have hw : logB 1 2 o L = true := decide_eq_true (by omega)
      refine walRight_call 1 2 o L (by omega) fun H3 hg3 => ?_
      rw [hw]
      have d1 := hg3.2 1 _ (get_set_ne (by omega) (get_old c1)) (by simp)
      have d2 := hg3.2 H2.length _ (get_set get_new) (by simp)
      repeat' (first
        | ((with_reducible refine Side.intro ?_) <;> (first
        | exact Nat.le_of_ble_eq_true rfl
        | (simp only [List.append_nil, List.nil_append, List.map_nil]; first | exact List.nodup_nil | exact nodup_bid1 _ | exact nodup_bid2 (by assumption))
        | ((first | refine fresh_tup ?_ | skip); (repeat (first |  exact FreshA.sl _ _ FreshA_bs | exact FreshA.sl _ _ FreshA_is | exact FreshA.nils | exact FreshA.nilp | exact FreshA.int _ _ | exact FreshA.bool _ | exact FreshA.str _ | exact fresh_nil | refine fresh_cons ?_ ?_ | with_reducible refine fresh_aggR ?_ | with_reducible refine fresh_agg ?_ | with_reducible exact fresh_nilA | with_reducible refine fresh_consA ?_ ?_)); done)
        | exact rfl
        ))
        | ((conv => whnf) <;> (first
        | (with_reducible refine and_same ?_)
        | (with_reducible refine and_side ?_ ?_)
        | ((with_reducible apply blkAt_intro) ; (focus (first
        | ((repeat (first
        | assumption
        | exact get_set (by assumption)
        )); done)
        )) ; (focus (first | rfl | assumption | omega)) ; (try dsimp only))
        | (with_reducible refine NOut.lit ?_)
        ))
        )
      all_goals (conv => whnf)
      all_goals (try dsimp only)
      all_goals exact ret_same (by simp only [arR, arE, ho, if_true, areasL, hL])
theorem Areas_call (p s r o : Int) {σ : AH} {Q : AV → AH → Prop} (h : ∀ σ', Gr σ σ' none → Q (.tup [arR p s r o, .int .i64 (arE p s r o)]) σ') : CallS Try.prog F.shape_Areas [shp p s r o] σ Q := by
  have hp : (arR p s r o).plain = true := by unfold arR; split <;> rfl
  exact call_two (Areas_ok p s r o) (.cons (.same rfl) .nil) hp rfl h
theorem Right_ok (p s r o : Int) : AOKn Try.prog F.shape_Right [shp p s r o] fun y => y = .bool (okA p s r o) := by
  refine AOKn.by_steps mixed fc_shape_Right_ok (by simp [fc_shape_Right]) ?_
  repeat' (first
    | ((with_reducible refine Side.intro ?_) <;> (first
    | exact Nat.le_of_ble_eq_true rfl
    | exact rfl
    ))
    | ((conv => whnf) <;> (first
    | (with_reducible refine and_side ?_ ?_)
    | ((with_reducible apply blkAt_intro) ; (focus (first
    | exact rfl
    )) ; (focus (first | rfl | assumption | omega)) ; (try dsimp only))
    ))
    )
  all_goals (conv => whnf)
  all_goals (try dsimp only)
  refine Areas_call p s r o fun H1 hg1 => ?_
  cases ho : okA p s r o
  · simp only [arR, arE, ho, noA, Bool.false_eq_true, if_false]
    repeat' (first
      | ((with_reducible refine Side.intro ?_) <;> (first
      | exact Nat.le_of_ble_eq_true rfl
      | (simp only [List.append_nil, List.nil_append, List.map_nil]; first | exact List.nodup_nil | exact nodup_bid1 _ | exact nodup_bid2 (by assumption))
      | ((first | refine fresh_tup ?_ | skip); (repeat (first |  exact FreshA.sl _ _ FreshA_bs | exact FreshA.sl _ _ FreshA_is | exact FreshA.nils | exact FreshA.nilp | exact FreshA.int _ _ | exact FreshA.bool _ | exact FreshA.str _ | exact fresh_nil | refine fresh_cons ?_ ?_ | with_reducible refine fresh_aggR ?_ | with_reducible refine fresh_agg ?_ | with_reducible exact fresh_nilA | with_reducible refine fresh_consA ?_ ?_)); done)
      | exact rfl
      ))
      | ((conv => whnf) <;> (first
      | (with_reducible refine and_same ?_)
      | (with_reducible refine and_side ?_ ?_)
      | (with_reducible refine Br.no (by omega) ?_)
      | ((with_reducible apply blkAt_intro) ; (focus (first
      | ((repeat (first
      | exact get_new
      )); done)
      )) ; (focus (first | rfl | assumption | omega)) ; (try dsimp only))
      | (with_reducible refine NOut.lit ?_)
      ))
      )
    all_goals (conv => whnf)
    all_goals (try dsimp only)
    all_goals exact ret_bool rfl
  · simp only [arR, arE, ho, if_true, areasL]
    repeat' (first
      | ((with_reducible refine Side.intro ?_) <;> (first
      | exact Nat.le_of_ble_eq_true rfl
      | (simp only [List.append_nil, List.nil_append, List.map_nil]; first | exact List.nodup_nil | exact nodup_bid1 _ | exact nodup_bid2 (by assumption))
      | ((first | refine fresh_tup ?_ | skip); (repeat (first |  exact FreshA.sl _ _ FreshA_bs | exact FreshA.sl _ _ FreshA_is | exact FreshA.nils | exact FreshA.nilp | exact FreshA.int _ _ | exact FreshA.bool _ | exact FreshA.str _ | exact fresh_nil | refine fresh_cons ?_ ?_ | with_reducible refine fresh_aggR ?_ | with_reducible refine fresh_agg ?_ | with_reducible exact fresh_nilA | with_reducible refine fresh_consA ?_ ?_)); done)
      | exact rfl
      ))
      | ((conv => whnf) <;> (first
      | (with_reducible refine and_same ?_)
      | (with_reducible refine and_side ?_ ?_)
      | (with_reducible refine Br.yes rfl ?_)
      | (with_reducible refine Br.no (by omega) ?_)
      | ((with_reducible apply blkAt_intro) ; (focus (first
      | ((repeat (first
      | exact get_new
      | exact get_set get_new
      )); done)
      )) ; (focus (first | rfl | assumption | omega)) ; (try dsimp only))
      | (with_reducible refine NOut.lit ?_)
      ))
      )
    all_goals (conv => whnf)
    all_goals (try dsimp only)
    all_goals exact ret_bool rfl
theorem Right_call (p s r o : Int) {σ : AH} {Q : AV → AH → Prop} (h : ∀ σ', Gr σ σ' none → Q (.bool (okA p s r o)) σ') : CallS Try.prog F.shape_Right [shp p s r o] σ Q :=
  call_one (Right_ok p s r o) (.cons (.same rfl) .nil) rfl h
theorem outB_no {p s r o l : Int} (ho : okA p s r o = false) : outB p s r o l = false := by simp [outB, ho]
theorem RNodes_val (σ : AH) (Q : AV → AH → Prop) (h : Q (.int .i64 13) σ) : CallS Try.prog F.joistref14_Nodes [.int .i64 64] σ Q := by
  refine call_of_body mixed fc_joistref14_Nodes_ok (by simp [fc_joistref14_Nodes]) ?_
  repeat' (first
    | ((with_reducible refine Side.intro ?_) <;> (first
    | omega
    ))
    | ((conv => whnf) <;> (first
    | (with_reducible refine and_same ?_)
    | (with_reducible refine and_side ?_ ?_)
    | (with_reducible refine Br.yes (by omega) ?_)
    | (with_reducible refine Br.no (by omega) ?_)
    ))
    )
  all_goals (conv => whnf)
  all_goals (try dsimp only)
  refine loop_at (α := Nat) (fun k => [(0, .int .i64 ([10, 2, 1].getD k 0)), (3, .int .i64 ([10, 12, 13].getD k 0))]) (fun _ => σ) (fun k => k ≤ 2) (fun k => 2 - k) 0 (by omega) rfl rfl ?_
  intro k hk
  have h3 : k = 0 ∨ k = 1 ∨ k = 2 := by omega
  have g0 : ([10, 2, 1] : List Int).getD 0 0 = 10 := rfl
  have g1 : ([10, 2, 1] : List Int).getD 1 0 = 2 := rfl
  have g2 : ([10, 2, 1] : List Int).getD 2 0 = 1 := rfl
  have f0 : ([10, 12, 13] : List Int).getD 0 0 = 10 := rfl
  have f1 : ([10, 12, 13] : List Int).getD 1 0 = 12 := rfl
  have f2 : ([10, 12, 13] : List Int).getD 2 0 = 13 := rfl
  rcases h3 with rfl | rfl | rfl
  · repeat' (first
      | ((with_reducible refine Side.intro ?_) <;> (first
      | omega
      ))
      | ((conv => whnf) <;> (first
      | (with_reducible refine and_same ?_)
      | (with_reducible refine and_side ?_ ?_)
      | (with_reducible refine Br.yes (by omega) ?_)
      ))
      )
    all_goals (conv => whnf)
    all_goals (try dsimp only)
    all_goals first
      | omega
      | exact ⟨1, rfl, rfl, by omega, by omega⟩
  · repeat' (first
      | ((with_reducible refine Side.intro ?_) <;> (first
      | omega
      ))
      | ((conv => whnf) <;> (first
      | (with_reducible refine and_same ?_)
      | (with_reducible refine and_side ?_ ?_)
      | (with_reducible refine Br.yes (by omega) ?_)
      ))
      )
    all_goals (conv => whnf)
    all_goals (try dsimp only)
    all_goals first
      | omega
      | exact ⟨2, rfl, rfl, by omega, by omega⟩
  · repeat' (first
      | ((conv => whnf) <;> (first
      | (with_reducible refine and_same ?_)
      | (with_reducible refine Br.no (by omega) ?_)
      ))
      )
    all_goals (conv => whnf)
    all_goals (try dsimp only)
    all_goals first
      | omega
      | exact h
theorem Rareas_ok (p s r o : Int) (h : sizedB p s r o = true) : AOKn Try.prog F.joistref16_areas [shp p s r o] fun y => y = areasL p s r o := by
  refine AOKn.by_steps mixed fc_joistref16_areas_ok (by simp [fc_joistref16_areas]) ?_
  have hq := sizedB_iff.1 h
  repeat' (first
    | ((with_reducible refine Side.intro ?_) <;> (first
    | omega
    | exact Nat.le_of_ble_eq_true rfl
    | exact rfl
    ))
    | ((conv => whnf) <;> (first
    | (with_reducible refine and_same ?_)
    | (with_reducible refine and_side ?_ ?_)
    | (with_reducible refine Br.yes (by omega) ?_)
    | ((with_reducible apply blkAt_intro) ; (focus (first
    | exact rfl
    )) ; (focus (first | rfl | assumption | omega)) ; (try dsimp only))
    ))
    )
  all_goals (conv => whnf)
  all_goals (try dsimp only)
  refine RNodes_val _ _ ?_
  repeat' (first
    | (with_reducible exact Gr.side (by ((repeat (first | exact Gr.refl _ _ | assumption | with_reducible refine Gr.trans ?_ (Gr.boxN _ _ _ _ _) | refine Gr.setNew ?_ (by first | exact Nat.le_refl _ | (simp only [newB_length, List.length_set, List.length_append, List.length_singleton]; omega) | omega) _ | refine Gr.addN ?_ _ | refine Gr.newN ?_ _ _ _ | exact Gr.trans (by assumption) (by assumption) | refine Gr.trans ?_ (by assumption) | refine Gr.trans (by assumption) ?_)); (first | done | fail))) _)
    | ((with_reducible refine Side.intro ?_) <;> (first
    | exact Nat.le_of_ble_eq_true rfl
    | (simp only [List.append_nil, List.nil_append, List.map_nil]; first | exact List.nodup_nil | exact nodup_bid1 _ | exact nodup_bid2 (by assumption))
    | ((first | refine fresh_tup ?_ | skip); (repeat (first |  exact FreshA.sl _ _ FreshA_bs | exact FreshA.sl _ _ FreshA_is | exact FreshA.nils | exact FreshA.nilp | exact FreshA.int _ _ | exact FreshA.bool _ | exact FreshA.str _ | exact fresh_nil | refine fresh_cons ?_ ?_ | with_reducible refine fresh_aggR ?_ | with_reducible refine fresh_agg ?_ | with_reducible exact fresh_nilA | with_reducible refine fresh_consA ?_ ?_)); done)
    | exact rfl
    ))
    | ((conv => whnf) <;> (first
    | (with_reducible refine and_same ?_)
    | (with_reducible refine and_side ?_ ?_)
    | (with_reducible refine Br.yes (by omega) ?_)
    | ((with_reducible apply blkAt_intro) ; (focus (first
    | exact rfl
    )) ; (focus (first | rfl | assumption | omega)) ; (try dsimp only))
    | (with_reducible refine NOut.lit ?_)
    ))
    )
  all_goals (conv => whnf)
  all_goals (try dsimp only)
  all_goals
    refine ret_same ?_
    simp only [areasL, lines, AV.agg.injEq, List.cons.injEq, AV.int.injEq, true_and, and_true]
    repeat' (refine And.intro ?_ ?_)
    all_goals omega
theorem okA_no {p s r o : Int} (hb : sizedB p s r o = false) : okA p s r o = false := by simp [okA, hb]
theorem RRight_ok (p s r o : Int) : AOKn Try.prog F.joistref16_Right [shp p s r o] fun y => y = .bool (okA p s r o) := by
  refine AOKn.by_steps mixed fc_joistref16_Right_ok (by simp [fc_joistref16_Right]) ?_
  cases hb : sizedB p s r o
  · have hn : ¬ (1 ≤ p ∧ p ≤ 64 ∧ 1 ≤ o ∧ o ≤ 4096 ∧ 2 ≤ s ∧ s ≤ 32 ∧ s % 2 = 0 ∧ 2 ≤ r ∧ r ≤ 8 ∧ r % 2 = 0) := fun e => by rw [sizedB_iff.2 e] at hb; cases hb
    rw [okA_no hb]
    repeat' (first
      | ((with_reducible refine Side.intro ?_) <;> (first
      | omega
      | (simp only [List.append_nil, List.nil_append, List.map_nil]; first | exact List.nodup_nil | exact nodup_bid1 _ | exact nodup_bid2 (by assumption))
      | ((first | refine fresh_tup ?_ | skip); (repeat (first |  exact FreshA.sl _ _ FreshA_bs | exact FreshA.sl _ _ FreshA_is | exact FreshA.nils | exact FreshA.nilp | exact FreshA.int _ _ | exact FreshA.bool _ | exact FreshA.str _ | exact fresh_nil | refine fresh_cons ?_ ?_ | with_reducible refine fresh_aggR ?_ | with_reducible refine fresh_agg ?_ | with_reducible exact fresh_nilA | with_reducible refine fresh_consA ?_ ?_)); done)
      | exact rfl
      ))
      | ((conv => whnf) <;> (first
      | (with_reducible refine and_same ?_)
      | (with_reducible refine and_side ?_ ?_)
      | (with_reducible refine Br.yes (by omega) ?_)
      | (with_reducible refine Br.mk (fun _ => ?_) (fun _ => ?_))
      | ((with_reducible apply blkAt_intro) ; (focus (first
      | exact rfl
      )) ; (focus (first | rfl | assumption | omega)) ; (try dsimp only))
      | (with_reducible refine NOut.lit ?_)
      ))
      )
    all_goals (conv => whnf)
    all_goals (try dsimp only)
    all_goals first
      | exact ret_bool rfl
      | trace_state
  · have hq := sizedB_iff.1 hb
    repeat' (first
      | ((with_reducible refine Side.intro ?_) <;> (first
      | omega
      | exact Nat.le_of_ble_eq_true rfl
      | exact rfl
      ))
      | ((conv => whnf) <;> (first
      | (with_reducible refine and_same ?_)
      | (with_reducible refine and_side ?_ ?_)
      | (with_reducible refine Br.yes (by omega) ?_)
      | (with_reducible refine Br.no (by omega) ?_)
      | ((with_reducible apply blkAt_intro) ; (focus (first
      | exact rfl
      )) ; (focus (first | rfl | assumption | omega)) ; (try dsimp only))
      ))
      )
    all_goals (conv => whnf)
    all_goals (try dsimp only)
    refine call_one (Rareas_ok p s r o hb) (.cons (.same rfl) .nil) rfl fun H2 hg2 => ?_
    unfold areasL
    have hl : okA p s r o = decide (lines p s r o ≤ 4096) := by rw [okA, hb, Bool.true_and]
    rw [hl]
    generalize lines p s r o = L at *
    repeat' (first
      | ((with_reducible refine Side.intro ?_) <;> (first
      | (simp only [List.append_nil, List.nil_append, List.map_nil]; first | exact List.nodup_nil | exact nodup_bid1 _ | exact nodup_bid2 (by assumption))
      | ((first | refine fresh_tup ?_ | skip); (repeat (first |  exact FreshA.sl _ _ FreshA_bs | exact FreshA.sl _ _ FreshA_is | exact FreshA.nils | exact FreshA.nilp | exact FreshA.int _ _ | exact FreshA.bool _ | exact FreshA.str _ | exact fresh_nil | refine fresh_cons ?_ ?_ | with_reducible refine fresh_aggR ?_ | with_reducible refine fresh_agg ?_ | with_reducible exact fresh_nilA | with_reducible refine fresh_consA ?_ ?_)); done)
      ))
      | ((conv => whnf) <;> (first
      | (with_reducible refine and_same ?_)
      | (with_reducible refine and_side ?_ ?_)
      | (with_reducible refine Br.mk (fun _ => ?_) (fun _ => ?_))
      | (with_reducible refine NOut.lit ?_)
      ))
      )
    all_goals (conv => whnf)
    all_goals (try dsimp only)
    all_goals first
      | exact ret_bool (decide_eq_true (by omega)).symm
      | exact ret_bool (decide_eq_false (by omega)).symm
      | trace_state
theorem RRight_call (p s r o : Int) {σ : AH} {Q : AV → AH → Prop} (h : ∀ σ', Gr σ σ' none → Q (.bool (okA p s r o)) σ') : CallS Try.prog F.joistref16_Right [shp p s r o] σ Q :=
  call_one (RRight_ok p s r o) (.cons (.same rfl) .nil) rfl h
end Go.Proofs.Ytjjmcpnbaahkgaa
