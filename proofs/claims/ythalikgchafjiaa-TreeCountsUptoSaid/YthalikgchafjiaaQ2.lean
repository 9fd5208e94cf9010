import Derived.Test.YthalikgchafjiaaQ1
namespace Go.Proofs.Ythalikgchafjiaa
open Go Go.Proofs.Ythalikgchafjiaa.V
set_option maxRecDepth 20000
attribute [local irreducible] CallS AOK AOKn ALoop Side Ref.ok
/-! Which extents are right. -/
def rtOk (pg at' : Int) (fr : Bool) (x : Int × Int × Int) : Bool := decide (x.1 = at' ∧ 1 ≤ x.2.1 ∧ x.2.1 ≤ pg - at' ∧ 0 ≤ x.2.2 ∧ x.2.2 ≤ 2 ∧ (x.2.2 = 1 → x.2.1 = 1) ∧ (fr = true → x.2.2 ≠ 0))
def rtG (pg : Int) : List (Int × Int × Int) → Int → Bool → Bool
  | [], at', _ => decide (at' = pg)
  | x :: l, at', fr => rtOk pg at' fr x && rtG pg l (at' + x.2.1) (decide (x.2.2 = 0))
def rt (pg : Int) (l : List (Int × Int × Int)) : Bool := decide (0 ≤ pg ∧ pg ≤ 64) && rtG pg l 0 false
theorem rtG_step {pg : Int} {l : List (Int × Int × Int)} {i : Nat} {x : Int × Int × Int} {at' : Int} {fr : Bool} (h : l[i]? = some x) : rtG pg (l.drop i) at' fr = (rtOk pg at' fr x && rtG pg (l.drop (i + 1)) (at' + x.2.1) (decide (x.2.2 = 0))) := by
  have hl := (List.getElem?_eq_some_iff.1 h).1
  have e : l.drop i = x :: l.drop (i + 1) := by rw [List.drop_eq_getElem_cons hl, (List.getElem?_eq_some_iff.1 h).2]
  rw [e]; rfl
theorem Right_ok (pg : Int) (l : List (Int × Int × Int)) (hl : l.length ≤ 4611686018427) : AOKn Try.prog F.tree_Right [.int .i64 pg, .sl 3 (bk l) false] fun y => y = .bool (rt pg l) := by
  have hn := bk_length l
  refine AOKn.by_steps mixed fc_tree_Right_ok (by simp [fc_tree_Right]) ?_
  repeat' (first
    | ((with_reducible refine Side.intro ?_) <;> (first
    | (simp only [List.append_nil, List.nil_append, List.map_nil]; first | exact List.nodup_nil | exact nodup_bid1 _ | exact nodup_bid2 (by assumption))
    | ((first | refine fresh_tup ?_ | skip); (repeat (first | exact fresh_bk _ |  exact FreshA.sl _ _ FreshA_bs | exact FreshA.sl _ _ FreshA_is | exact FreshA.nils | exact FreshA.nilp | exact FreshA.int _ _ | exact FreshA.bool _ | exact FreshA.str _ | exact fresh_nil | refine fresh_cons ?_ ?_ | with_reducible refine fresh_aggR ?_ | with_reducible refine fresh_agg ?_ | with_reducible exact fresh_nilA | with_reducible refine fresh_consA ?_ ?_)); done)
    ))
    | ((conv => whnf) <;> (first
    | (with_reducible refine and_same ?_)
    | (with_reducible refine and_side ?_ ?_)
    | (with_reducible refine Br.mk (fun _ => ?_) (fun _ => ?_))
    | (with_reducible refine NOut.lit ?_)
    | (with_reducible refine lenR_sl ?_)
    ))
    )
  all_goals (conv => whnf)
  all_goals (try dsimp only)
  · exact ret_bool (by rw [rt, decide_eq_false (by omega)]; rfl)
  · exact ret_bool (by rw [rt, decide_eq_false (by omega)]; rfl)
  · have hR : rt pg l = rtG pg l 0 false := by rw [rt, decide_eq_true (by omega)]; rfl
    refine loop_at (α := Nat × AH × Int × Bool) (fun a => [(5, .int .i64 a.2.2.1), (6, .bool a.2.2.2), (17, .int .i64 a.1)]) (fun a => a.2.1) (fun a => a.1 ≤ l.length ∧ rtG pg (l.drop a.1) a.2.2.1 a.2.2.2 = rt pg l ∧ 0 ≤ a.2.2.1 ∧ a.2.2.1 ≤ pg) (fun a => l.length - a.1) (0, [], 0, false) ⟨by omega, by rw [hR]; rfl, Int.le_refl 0, by dsimp only; omega⟩ rfl rfl ?_
    rintro ⟨i, σ, at', fr⟩ ⟨hi, hG, h0, h1⟩
    dsimp only at hi hG h0 h1 ⊢
    by_cases hlt : i < l.length
    · obtain ⟨x, hx, hx'⟩ := getN (l := l) (k := i) hlt
      rw [rtG_step hx'] at hG
      cases hok : rtOk pg at' fr x
      · rw [hok, Bool.false_and] at hG
        have hok2 := hok
        simp only [rtOk, decide_eq_false_iff_not] at hok2
        cases fr
        · simp only [Bool.false_eq_true, false_implies, and_true] at hok2
          repeat' (first
            | ((with_reducible refine Side.intro ?_) <;> (first
            | omega
            | exact Nat.le_of_ble_eq_true rfl
            | (simp only [List.append_nil, List.nil_append, List.map_nil]; first | exact List.nodup_nil | exact nodup_bid1 _ | exact nodup_bid2 (by assumption))
            | ((first | refine fresh_tup ?_ | skip); (repeat (first | exact fresh_bk _ |  exact FreshA.sl _ _ FreshA_bs | exact FreshA.sl _ _ FreshA_is | exact FreshA.nils | exact FreshA.nilp | exact FreshA.int _ _ | exact FreshA.bool _ | exact FreshA.str _ | exact fresh_nil | refine fresh_cons ?_ ?_ | with_reducible refine fresh_aggR ?_ | with_reducible refine fresh_agg ?_ | with_reducible exact fresh_nilA | with_reducible refine fresh_consA ?_ ?_)); done)
            | exact rfl
            ))
            | ((conv => whnf) <;> (first
            | (with_reducible refine and_same ?_)
            | (with_reducible refine and_side ?_ ?_)
            | ((with_reducible apply Br.yes) ; (focus omega))
            | (with_reducible refine Br.mk (fun _ => ?_) (fun _ => ?_))
            | ((with_reducible apply blkAt_step) ; (focus (first
            | ((repeat (first
            | exact get_new
            | exact get_set get_new
            )); done)
            )) ; (focus (first | rfl | assumption | omega)) ; (focus (first | rfl | assumption)) ; (try dsimp only))
            | ((with_reducible apply nthR_bk) ; (focus assumption))
            | (with_reducible refine ia_sl ?_ ?_)
            | (with_reducible refine NOut.lit ?_)
            ))
            )
          all_goals (conv => whnf)
          all_goals (try dsimp only)
          all_goals (first | exact ret_bool hG | (exfalso; omega))
        · simp only [forall_const] at hok2
          repeat' (first
            | ((with_reducible refine Side.intro ?_) <;> (first
            | omega
            | exact Nat.le_of_ble_eq_true rfl
            | (simp only [List.append_nil, List.nil_append, List.map_nil]; first | exact List.nodup_nil | exact nodup_bid1 _ | exact nodup_bid2 (by assumption))
            | ((first | refine fresh_tup ?_ | skip); (repeat (first | exact fresh_bk _ |  exact FreshA.sl _ _ FreshA_bs | exact FreshA.sl _ _ FreshA_is | exact FreshA.nils | exact FreshA.nilp | exact FreshA.int _ _ | exact FreshA.bool _ | exact FreshA.str _ | exact fresh_nil | refine fresh_cons ?_ ?_ | with_reducible refine fresh_aggR ?_ | with_reducible refine fresh_agg ?_ | with_reducible exact fresh_nilA | with_reducible refine fresh_consA ?_ ?_)); done)
            | exact rfl
            ))
            | ((conv => whnf) <;> (first
            | (with_reducible refine and_same ?_)
            | (with_reducible refine and_side ?_ ?_)
            | ((with_reducible apply Br.yes) ; (focus omega))
            | (with_reducible refine Br.mk (fun _ => ?_) (fun _ => ?_))
            | ((with_reducible apply blkAt_step) ; (focus (first
            | ((repeat (first
            | exact get_new
            | exact get_set get_new
            )); done)
            )) ; (focus (first | rfl | assumption | omega)) ; (focus (first | rfl | assumption)) ; (try dsimp only))
            | ((with_reducible apply nthR_bk) ; (focus assumption))
            | (with_reducible refine ia_sl ?_ ?_)
            | (with_reducible refine NOut.lit ?_)
            ))
            )
          all_goals (conv => whnf)
          all_goals (try dsimp only)
          all_goals (first | exact ret_bool hG | (exfalso; omega))
      · rw [hok, Bool.true_and] at hG
        have hok2 := hok
        simp only [rtOk, decide_eq_true_eq] at hok2
        obtain ⟨q1, q2, q3, q4, q5, q6, q7⟩ := hok2
        cases fr
        · repeat' (first
            | ((with_reducible refine Side.intro ?_) <;> (first
            | omega
            | exact Nat.le_of_ble_eq_true rfl
            | exact rfl
            ))
            | ((conv => whnf) <;> (first
            | (with_reducible refine and_same ?_)
            | (with_reducible refine and_side ?_ ?_)
            | ((with_reducible apply Br.yes) ; (focus omega))
            | ((with_reducible apply Br.no) ; (focus omega))
            | (with_reducible refine Br.mk (fun _ => ?_) (fun _ => ?_))
            | ((with_reducible apply blkAt_step) ; (focus (first
            | ((repeat (first
            | exact get_new
            | exact get_set get_new
            )); done)
            )) ; (focus (first | rfl | assumption | omega)) ; (focus (first | rfl | assumption)) ; (try dsimp only))
            | ((with_reducible apply nthR_bk) ; (focus assumption))
            | (with_reducible refine ia_sl ?_ ?_)
            ))
            )
          all_goals (conv => whnf)
          all_goals (try dsimp only)
          all_goals first
            | exact ⟨(i + 1, _, at' + x.2.1, false), rfl, rfl, ⟨by omega, by rw [decide_eq_false (by omega)] at hG; exact hG, by dsimp only; omega, by dsimp only; omega⟩, by omega⟩
            | exact ⟨(i + 1, _, at' + x.2.1, true), rfl, rfl, ⟨by omega, by rw [decide_eq_true (by omega)] at hG; exact hG, by dsimp only; omega, by dsimp only; omega⟩, by omega⟩
        · have q8 := q7 rfl
          repeat' (first
            | ((with_reducible refine Side.intro ?_) <;> (first
            | omega
            | exact Nat.le_of_ble_eq_true rfl
            | exact rfl
            ))
            | ((conv => whnf) <;> (first
            | (with_reducible refine and_same ?_)
            | (with_reducible refine and_side ?_ ?_)
            | ((with_reducible apply Br.yes) ; (focus omega))
            | ((with_reducible apply Br.no) ; (focus omega))
            | (with_reducible refine Br.mk (fun _ => ?_) (fun _ => ?_))
            | ((with_reducible apply blkAt_step) ; (focus (first
            | ((repeat (first
            | exact get_new
            | exact get_set get_new
            )); done)
            )) ; (focus (first | rfl | assumption | omega)) ; (focus (first | rfl | assumption)) ; (try dsimp only))
            | ((with_reducible apply nthR_bk) ; (focus assumption))
            | (with_reducible refine ia_sl ?_ ?_)
            ))
            )
          all_goals (conv => whnf)
          all_goals (try dsimp only)
          all_goals first
            | exact ⟨(i + 1, _, at' + x.2.1, false), rfl, rfl, ⟨by omega, by rw [decide_eq_false (by omega)] at hG; exact hG, by dsimp only; omega, by dsimp only; omega⟩, by omega⟩
            | exact absurd (by assumption) q8
    · have e : i = l.length := by omega
      subst e
      rw [List.drop_length] at hG
      repeat' (first
        | ((with_reducible refine Side.intro ?_) <;> (first
        | (simp only [List.append_nil, List.nil_append, List.map_nil]; first | exact List.nodup_nil | exact nodup_bid1 _ | exact nodup_bid2 (by assumption))
        | ((first | refine fresh_tup ?_ | skip); (repeat (first | exact fresh_bk _ |  exact FreshA.sl _ _ FreshA_bs | exact FreshA.sl _ _ FreshA_is | exact FreshA.nils | exact FreshA.nilp | exact FreshA.int _ _ | exact FreshA.bool _ | exact FreshA.str _ | exact fresh_nil | refine fresh_cons ?_ ?_ | with_reducible refine fresh_aggR ?_ | with_reducible refine fresh_agg ?_ | with_reducible exact fresh_nilA | with_reducible refine fresh_consA ?_ ?_)); done)
        ))
        | ((conv => whnf) <;> (first
        | (with_reducible refine and_same ?_)
        | (with_reducible refine and_side ?_ ?_)
        | ((with_reducible apply Br.no) ; (focus omega))
        | (with_reducible refine Br.mk (fun _ => ?_) (fun _ => ?_))
        | (with_reducible refine NOut.lit ?_)
        ))
        )
      all_goals (conv => whnf)
      all_goals (try dsimp only)
      all_goals exact ret_bool (by rw [← hG]; simp only [rtG]; first | exact (decide_eq_true (by omega)).symm | exact (decide_eq_false (by omega)).symm)
theorem RRight14_ok (pg : Int) (l : List (Int × Int × Int)) (hl : l.length ≤ 4611686018427) : AOKn Try.prog F.joistref14_Right [.int .i64 pg, .sl 3 (bk l) false] fun y => y = .bool (rt pg l) := by
  have hn := bk_length l
  refine AOKn.by_steps mixed fc_joistref14_Right_ok (by simp [fc_joistref14_Right]) ?_
  repeat' (first
    | ((with_reducible refine Side.intro ?_) <;> (first
    | (simp only [List.append_nil, List.nil_append, List.map_nil]; first | exact List.nodup_nil | exact nodup_bid1 _ | exact nodup_bid2 (by assumption))
    | ((first | refine fresh_tup ?_ | skip); (repeat (first | exact fresh_bk _ |  exact FreshA.sl _ _ FreshA_bs | exact FreshA.sl _ _ FreshA_is | exact FreshA.nils | exact FreshA.nilp | exact FreshA.int _ _ | exact FreshA.bool _ | exact FreshA.str _ | exact fresh_nil | refine fresh_cons ?_ ?_ | with_reducible refine fresh_aggR ?_ | with_reducible refine fresh_agg ?_ | with_reducible exact fresh_nilA | with_reducible refine fresh_consA ?_ ?_)); done)
    ))
    | ((conv => whnf) <;> (first
    | (with_reducible refine and_same ?_)
    | (with_reducible refine and_side ?_ ?_)
    | (with_reducible refine Br.mk (fun _ => ?_) (fun _ => ?_))
    | (with_reducible refine NOut.lit ?_)
    ))
    )
  all_goals (conv => whnf)
  all_goals (try dsimp only)
  · exact ret_bool (by rw [rt, decide_eq_false (by omega)]; rfl)
  · exact ret_bool (by rw [rt, decide_eq_false (by omega)]; rfl)
  · have hR : rt pg l = rtG pg l 0 false := by rw [rt, decide_eq_true (by omega)]; rfl
    refine loop_at (α := Nat × AH × Int × Bool) (fun a => [(5, .int .i64 a.2.2.1), (6, .int .i64 a.1)]) (fun a => a.2.1) (fun a => a.1 ≤ l.length ∧ rtG pg (l.drop a.1) a.2.2.1 a.2.2.2 = rt pg l ∧ 0 ≤ a.2.2.1 ∧ a.2.2.1 ≤ pg ∧ (a.1 = 0 → a.2.2.2 = false) ∧ (∀ w, 0 < a.1 → l[a.1 - 1]? = some w → a.2.2.2 = decide (w.2.2 = 0))) (fun a => l.length - a.1) (0, [], 0, false) ⟨by omega, by rw [hR]; rfl, Int.le_refl 0, by dsimp only; omega, fun _ => rfl, fun w h => by dsimp only at h; omega⟩ rfl rfl ?_
    rintro ⟨i, σ, at', fr⟩ ⟨hi, hG, h0, h1, hp0, hp1⟩
    dsimp only at hi hG h0 h1 hp0 hp1 ⊢
    by_cases hlt : i < l.length
    · obtain ⟨x, hx, hx'⟩ := getN (l := l) (k := i) hlt
      rw [rtG_step hx'] at hG
      have hnx : ∀ w, 0 < i + 1 → l[i + 1 - 1]? = some w → (decide (x.2.2 = 0)) = decide (w.2.2 = 0) := fun w _ hw => by
        rw [Nat.add_sub_cancel, hx'] at hw; cases hw; rfl
      rcases Nat.eq_zero_or_pos i with hi0 | hi0
      · have hfr := hp0 hi0
        subst hfr
        cases hok : rtOk pg at' false x
        · rw [hok, Bool.false_and] at hG
          have hok2 := hok
          simp only [rtOk, decide_eq_false_iff_not] at hok2
          simp only [Bool.false_eq_true, false_implies, and_true] at hok2
          repeat' (first
            | ((with_reducible refine Side.intro ?_) <;> (first
            | omega
            | exact Nat.le_of_ble_eq_true rfl
            | (simp only [List.append_nil, List.nil_append, List.map_nil]; first | exact List.nodup_nil | exact nodup_bid1 _ | exact nodup_bid2 (by assumption))
            | ((first | refine fresh_tup ?_ | skip); (repeat (first | exact fresh_bk _ |  exact FreshA.sl _ _ FreshA_bs | exact FreshA.sl _ _ FreshA_is | exact FreshA.nils | exact FreshA.nilp | exact FreshA.int _ _ | exact FreshA.bool _ | exact FreshA.str _ | exact fresh_nil | refine fresh_cons ?_ ?_ | with_reducible refine fresh_aggR ?_ | with_reducible refine fresh_agg ?_ | with_reducible exact fresh_nilA | with_reducible refine fresh_consA ?_ ?_)); done)
            | exact rfl
            ))
            | ((conv => whnf) <;> (first
            | (with_reducible refine and_same ?_)
            | (with_reducible refine and_side ?_ ?_)
            | ((with_reducible apply Br.yes) ; (focus omega))
            | (with_reducible refine Br.mk (fun _ => ?_) (fun _ => ?_))
            | ((with_reducible apply blkAt_step) ; (focus (first
            | ((repeat (first
            | exact get_new
            | exact get_set get_new
            )); done)
            )) ; (focus (first | rfl | assumption | omega)) ; (focus (first | rfl | assumption)) ; (try dsimp only))
            | ((with_reducible apply nthR_bk) ; (focus assumption))
            | (with_reducible refine ia_sl ?_ ?_)
            | (with_reducible refine NOut.lit ?_)
            | (with_reducible refine lenR_sl ?_)
            ))
            )
          all_goals (conv => whnf)
          all_goals (try dsimp only)
          all_goals (first | exact ret_bool hG | (exfalso; omega))
        · rw [hok, Bool.true_and] at hG
          have hok2 := hok
          simp only [rtOk, decide_eq_true_eq] at hok2
          obtain ⟨q1, q2, q3, q4, q5, q6, q7⟩ := hok2
          repeat' (first
            | ((with_reducible refine Side.intro ?_) <;> (first
            | omega
            | exact Nat.le_of_ble_eq_true rfl
            | exact rfl
            ))
            | ((conv => whnf) <;> (first
            | (with_reducible refine and_same ?_)
            | (with_reducible refine and_side ?_ ?_)
            | ((with_reducible apply Br.yes) ; (focus omega))
            | ((with_reducible apply Br.no) ; (focus omega))
            | (with_reducible refine Br.mk (fun _ => ?_) (fun _ => ?_))
            | ((with_reducible apply blkAt_step) ; (focus (first
            | ((repeat (first
            | exact get_new
            | exact get_set get_new
            )); done)
            )) ; (focus (first | rfl | assumption | omega)) ; (focus (first | rfl | assumption)) ; (try dsimp only))
            | ((with_reducible apply nthR_bk) ; (focus assumption))
            | (with_reducible refine ia_sl ?_ ?_)
            | (with_reducible refine lenR_sl ?_)
            ))
            )
          all_goals (conv => whnf)
          all_goals (try dsimp only)
          all_goals exact ⟨(i + 1, _, at' + x.2.1, decide (x.2.2 = 0)), rfl, rfl, ⟨by omega, hG, by dsimp only; omega, by dsimp only; omega, by simp, hnx⟩, by omega⟩
      · obtain ⟨w, hw⟩ : ∃ w, l[i - 1]? = some w := ⟨_, List.getElem?_eq_getElem (by omega)⟩
        have hw' : l[((i : Int) - 1).toNat]? = some w := by rw [← hw]; congr 1; omega
        have hfr := hp1 w hi0 hw
        cases hok : rtOk pg at' fr x
        · rw [hok, Bool.false_and] at hG
          have hok2 := hok
          simp only [rtOk, decide_eq_false_iff_not] at hok2
          have hok3 : ¬ (x.1 = at' ∧ 1 ≤ x.2.1 ∧ x.2.1 ≤ pg - at' ∧ 0 ≤ x.2.2 ∧ x.2.2 ≤ 2 ∧ (x.2.2 = 1 → x.2.1 = 1) ∧ (w.2.2 = 0 → x.2.2 ≠ 0)) := fun q => hok2 ⟨q.1, q.2.1, q.2.2.1, q.2.2.2.1, q.2.2.2.2.1, q.2.2.2.2.2.1, fun e => q.2.2.2.2.2.2 (by rw [hfr] at e; exact of_decide_eq_true e)⟩
          repeat' (first
            | ((with_reducible refine Side.intro ?_) <;> (first
            | omega
            | exact Nat.le_of_ble_eq_true rfl
            | (simp only [List.append_nil, List.nil_append, List.map_nil]; first | exact List.nodup_nil | exact nodup_bid1 _ | exact nodup_bid2 (by assumption))
            | ((first | refine fresh_tup ?_ | skip); (repeat (first | exact fresh_bk _ |  exact FreshA.sl _ _ FreshA_bs | exact FreshA.sl _ _ FreshA_is | exact FreshA.nils | exact FreshA.nilp | exact FreshA.int _ _ | exact FreshA.bool _ | exact FreshA.str _ | exact fresh_nil | refine fresh_cons ?_ ?_ | with_reducible refine fresh_aggR ?_ | with_reducible refine fresh_agg ?_ | with_reducible exact fresh_nilA | with_reducible refine fresh_consA ?_ ?_)); done)
            | exact rfl
            ))
            | ((conv => whnf) <;> (first
            | (with_reducible refine and_same ?_)
            | (with_reducible refine and_side ?_ ?_)
            | ((with_reducible apply Br.yes) ; (focus omega))
            | (with_reducible refine Br.mk (fun _ => ?_) (fun _ => ?_))
            | ((with_reducible apply blkAt_step) ; (focus (first
            | ((repeat (first
            | exact get_new
            | exact get_set get_new
            )); done)
            )) ; (focus (first | rfl | assumption | omega)) ; (focus (first | rfl | assumption)) ; (try dsimp only))
            | ((with_reducible apply nthR_bk) ; (focus assumption))
            | (with_reducible refine ia_sl ?_ ?_)
            | (with_reducible refine NOut.lit ?_)
            | (with_reducible refine lenR_sl ?_)
            ))
            )
          all_goals (conv => whnf)
          all_goals (try dsimp only)
          all_goals (first | exact ret_bool hG | (exfalso; omega))
        · rw [hok, Bool.true_and] at hG
          have hok2 := hok
          simp only [rtOk, decide_eq_true_eq] at hok2
          obtain ⟨q1, q2, q3, q4, q5, q6, q7⟩ := hok2
          have q8 : w.2.2 = 0 → x.2.2 ≠ 0 := fun e => q7 (by rw [hfr]; exact decide_eq_true e)
          repeat' (first
            | ((with_reducible refine Side.intro ?_) <;> (first
            | omega
            | exact Nat.le_of_ble_eq_true rfl
            | exact rfl
            ))
            | ((conv => whnf) <;> (first
            | (with_reducible refine and_same ?_)
            | (with_reducible refine and_side ?_ ?_)
            | ((with_reducible apply Br.yes) ; (focus omega))
            | ((with_reducible apply Br.no) ; (focus omega))
            | (with_reducible refine Br.mk (fun _ => ?_) (fun _ => ?_))
            | ((with_reducible apply blkAt_step) ; (focus (first
            | ((repeat (first
            | exact get_new
            | exact get_set get_new
            )); done)
            )) ; (focus (first | rfl | assumption | omega)) ; (focus (first | rfl | assumption)) ; (try dsimp only))
            | ((with_reducible apply nthR_bk) ; (focus assumption))
            | (with_reducible refine ia_sl ?_ ?_)
            | (with_reducible refine lenR_sl ?_)
            ))
            )
          all_goals (conv => whnf)
          all_goals (try dsimp only)
          all_goals first
            | exact ⟨(i + 1, _, at' + x.2.1, decide (x.2.2 = 0)), rfl, rfl, ⟨by omega, hG, by dsimp only; omega, by dsimp only; omega, by simp, hnx⟩, by omega⟩
            | (exfalso; omega)
    · have e : i = l.length := by omega
      subst e
      rw [List.drop_length] at hG
      repeat' (first
        | ((with_reducible refine Side.intro ?_) <;> (first
        | (simp only [List.append_nil, List.nil_append, List.map_nil]; first | exact List.nodup_nil | exact nodup_bid1 _ | exact nodup_bid2 (by assumption))
        | ((first | refine fresh_tup ?_ | skip); (repeat (first | exact fresh_bk _ |  exact FreshA.sl _ _ FreshA_bs | exact FreshA.sl _ _ FreshA_is | exact FreshA.nils | exact FreshA.nilp | exact FreshA.int _ _ | exact FreshA.bool _ | exact FreshA.str _ | exact fresh_nil | refine fresh_cons ?_ ?_ | with_reducible refine fresh_aggR ?_ | with_reducible refine fresh_agg ?_ | with_reducible exact fresh_nilA | with_reducible refine fresh_consA ?_ ?_)); done)
        ))
        | ((conv => whnf) <;> (first
        | (with_reducible refine and_same ?_)
        | (with_reducible refine and_side ?_ ?_)
        | ((with_reducible apply Br.no) ; (focus omega))
        | (with_reducible refine Br.mk (fun _ => ?_) (fun _ => ?_))
        | (with_reducible refine NOut.lit ?_)
        | (with_reducible refine lenR_sl ?_)
        ))
        )
      all_goals (conv => whnf)
      all_goals (try dsimp only)
      all_goals exact ret_bool (by rw [← hG]; simp only [rtG]; first | exact (decide_eq_true (by omega)).symm | exact (decide_eq_false (by omega)).symm)
end Go.Proofs.Ythalikgchafjiaa

namespace Go.Proofs.Ythalikgchafjiaa
open Go Go.Proofs.Ythalikgchafjiaa.V
/-! What is written: plain. -/
abbrev Lv := Bool × List (Int × Int)
def chk (ps : List (Int × Int)) (k : Nat) : List (Int × Int) := (ps.drop (7 * k)).take 7
def nbB (leaf : Bool) (ps : List (Int × Int)) (sh : Int) (k : Nat) : List UInt8 := ofR (ndW leaf sh (chk ps k))
/-- The first k nodes of a level. -/
def lvB (leaf : Bool) (ps : List (Int × Int)) (sh : Int) (k : Nat) : List UInt8 := ((List.range k).map (nbB leaf ps sh)).flatten
def wrN : List Lv → Nat
  | [] => 0
  | q :: r => hol1 q.2.length + wrN r
def wrG : List Lv → Nat → List UInt8
  | [], _ => []
  | q :: r, base => lvB q.1 q.2 ((base + hol1 q.2.length : Nat) : Int) (hol1 q.2.length) ++ wrG r (base + hol1 q.2.length)
theorem wrN_append (A B : List Lv) : wrN (A ++ B) = wrN A + wrN B := by
  induction A with
  | nil => simp [wrN]
  | cons q A ih => simp only [List.cons_append, wrN, ih]; omega
theorem wrG_append (A B : List Lv) (b : Nat) : wrG (A ++ B) b = wrG A b ++ wrG B (b + wrN A) := by
  induction A generalizing b with
  | nil => simp [wrG, wrN]
  | cons q A ih => simp only [List.cons_append, wrG, wrN, ih, List.append_assoc, Nat.add_assoc]
theorem wrN_reverse (L : List Lv) : wrN L.reverse = wrN L := by
  induction L with
  | nil => rfl
  | cons q L ih => rw [List.reverse_cons, wrN_append, ih]; simp only [wrN]; omega
theorem lvB_succ (leaf : Bool) (ps : List (Int × Int)) (sh : Int) (k : Nat) : lvB leaf ps sh (k + 1) = lvB leaf ps sh k ++ nbB leaf ps sh k := by simp [lvB, List.range_succ]
theorem wrN_lvP : ∀ (n : Nat) (leaf : Bool) (ps : List (Int × Int)), ps.length = n → wrN (lvP leaf ps) = ndN n := by
  intro n
  induction n using Nat.strongRecOn with
  | ind n ih =>
    intro leaf ps hn
    subst hn
    by_cases h : 1 < hol1 ps.length
    · rw [lvP_more h]
      have h2 := ih (hol1 ps.length) (hol1_lt h) false (upP ps) (upP_length ps)
      simp only [wrN]
      rw [h2, ndN, ndN, ndT_more h]
      congr 1
      rw [show hol1 (hol1 ps.length) = hol (hol1 ps.length) from by
        have : 1 ≤ hol (hol1 ps.length) := by unfold hol; omega
        rw [hol1]
        omega]
    · rw [lvP_one h]
      simp only [wrN]
      rw [ndN, ndT_one (by omega)]
/-- What is told of all levels. -/
structure LvOk (B : Int) (n : Nat) (q : Lv) : Prop where
  len : q.2.length ≤ n
  bd : ∀ p, p ∈ q.2 → (0 ≤ p.1 ∧ p.1 ≤ B) ∧ 0 ≤ p.2 ∧ p.2 ≤ B
theorem lvP_ok (B : Int) : ∀ (n : Nat) (leaf : Bool) (ps : List (Int × Int)), ps.length ≤ n → (n : Int) ≤ B → (∀ p, p ∈ ps → (0 ≤ p.1 ∧ p.1 ≤ B) ∧ 0 ≤ p.2 ∧ p.2 ≤ B) → ∀ q, q ∈ lvP leaf ps → LvOk B n q := by
  intro n
  induction n using Nat.strongRecOn with
  | ind n ih =>
    intro leaf ps hn hB hp q hq
    by_cases h : 1 < hol1 ps.length
    · rw [lvP_more h, List.mem_cons] at hq
      rcases hq with rfl | hq
      · exact ⟨hn, hp⟩
      · have hlt := hol1_lt h
        have := ih (hol1 ps.length) (by omega) false (upP ps) (by rw [upP_length]; omega) (by omega) (fun p hp' => by
          simp only [upP, upK, List.mem_map, List.mem_range] at hp'
          obtain ⟨i, hi, rfl⟩ := hp'
          dsimp only
          refine ⟨?_, by omega⟩
          cases hx : ps[7 * i]? with
          | none => simp only [Option.getD_none]; omega
          | some x => simp only [Option.getD_some]; exact (hp x (List.mem_of_getElem? hx)).1) q hq
        exact ⟨by have := this.len; omega, this.bd⟩
    · rw [lvP_one h, List.mem_singleton] at hq
      subst hq
      exact ⟨hn, hp⟩
theorem chk_len (ps : List (Int × Int)) (k : Nat) : (chk ps k).length ≤ 7 := by simp only [chk, List.length_take]; omega
theorem chk_mem {ps : List (Int × Int)} {k : Nat} {p : Int × Int} (h : p ∈ chk ps k) : p ∈ ps := List.mem_of_mem_drop (List.mem_of_mem_take h)
theorem ndN64 {n : Nat} (h : n ≤ 64) : ndN n ≤ 20 := by
  have := ndT_le (hol1 n)
  have h2 : hol1 n ≤ 10 := by unfold hol1 hol; omega
  unfold ndN
  omega
theorem ndN_64 : ndI 64 = 13 := by
  have e1 : ndT 10 = 3 := by rw [ndT_more (by omega), show hol 10 = 2 from rfl, ndT_more (by omega), show hol 2 = 1 from rfl, ndT_one (by omega)]
  rw [ndI, if_neg (by omega), show (64 : Int).toNat = 64 from rfl, ndN, show hol1 64 = 10 from rfl, e1]
  rfl
theorem ndN_ge {a b : Nat} (h : a ≤ b) : ndN a ≤ ndN b := by
  have key : ∀ n m : Nat, m ≤ n → ndT m ≤ ndT n := by
    intro n
    induction n using Nat.strongRecOn with
    | ind n ih =>
      intro m hm
      by_cases h1 : m ≤ 1
      · rw [ndT_one h1]; omega
      · rw [ndT_more (by omega : 1 < m), ndT_more (by omega : 1 < n)]
        have h2 : hol m ≤ hol n := by unfold hol; omega
        have h3 := ih (hol n) (by unfold hol; omega) (hol m) h2
        omega
  have h2 : hol1 a ≤ hol1 b := by unfold hol1 hol; omega
  have := key _ _ h2
  unfold ndN
  omega
/-- Which errno; what stands there. -/
def wrE (pages room : Int) (l : List (Int × Int × Int)) : Int := if rt pages l = true then (if room < ndI l.length ∨ 13 < room then 2 else 0) else 1
def wrR (l : List (Int × Int × Int)) : List Lv := (lvP true (prL l)).reverse
def wrB (room : Int) (l : List (Int × Int × Int)) : List UInt8 := wrG (wrR l) 0 ++ List.replicate (128 * room.toNat - (wrG (wrR l) 0).length) 0
def wrL (pages room : Int) (l : List (Int × Int × Int)) : List UInt8 := if wrE pages room l = 0 then wrB room l else []
theorem rtG_bd {pg : Int} : ∀ {l : List (Int × Int × Int)} {at' : Int} {fr : Bool}, rtG pg l at' fr = true → 0 ≤ at' → at' ≤ pg → ((l.length : Nat) : Int) ≤ pg - at' ∧ ∀ e, e ∈ l → 0 ≤ e.1 ∧ e.1 ≤ pg ∧ 1 ≤ e.2.1 ∧ e.2.1 ≤ pg ∧ 0 ≤ e.2.2 ∧ e.2.2 ≤ 2
  | [], at', fr, h, h0, h1 => ⟨by simp only [List.length_nil]; omega, by simp⟩
  | x :: l, at', fr, h, h0, h1 => by
    simp only [rtG, Bool.and_eq_true, rtOk, decide_eq_true_eq] at h
    obtain ⟨⟨q1, q2, q3, q4, q5, q6, q7⟩, h⟩ := h
    obtain ⟨k1, k2⟩ := rtG_bd h (by omega) (by omega)
    refine ⟨by rw [List.length_cons]; omega, fun e he => ?_⟩
    rcases List.mem_cons.1 he with rfl | he
    · exact ⟨by omega, by omega, by omega, by omega, by omega, by omega⟩
    · exact k2 e he
theorem rt_bd {pg : Int} {l : List (Int × Int × Int)} (h : rt pg l = true) : 0 ≤ pg ∧ pg ≤ 64 ∧ l.length ≤ 64 ∧ ∀ e, e ∈ l → 0 ≤ e.1 ∧ e.1 ≤ 64 ∧ 1 ≤ e.2.1 ∧ e.2.1 ≤ 64 ∧ 0 ≤ e.2.2 ∧ e.2.2 ≤ 2 := by
  simp only [rt, Bool.and_eq_true, decide_eq_true_eq] at h
  obtain ⟨⟨h0, h1⟩, h⟩ := h
  obtain ⟨k1, k2⟩ := rtG_bd h (by omega) h0
  refine ⟨h0, h1, by omega, fun e he => ?_⟩
  have := k2 e he
  omega
theorem prL_bd {l : List (Int × Int × Int)} (h : ∀ e, e ∈ l → 0 ≤ e.1 ∧ e.1 ≤ 64 ∧ 1 ≤ e.2.1 ∧ e.2.1 ≤ 64 ∧ 0 ≤ e.2.2 ∧ e.2.2 ≤ 2) : ∀ p, p ∈ prL l → (0 ≤ p.1 ∧ p.1 ≤ 1048576) ∧ 0 ≤ p.2 ∧ p.2 ≤ 1048576 := by
  intro p hp
  simp only [prL, List.mem_map] at hp
  obtain ⟨e, he, rfl⟩ := hp
  have := h e he
  dsimp only
  omega
theorem wrR_ok {pg : Int} {l : List (Int × Int × Int)} (h : rt pg l = true) : (∀ q, q ∈ wrR l → LvOk 1048576 64 q) ∧ wrN (wrR l) = ndN l.length ∧ ndN l.length ≤ 20 := by
  obtain ⟨_, _, hl, hb⟩ := rt_bd h
  have hpl : (prL l).length = l.length := by simp [prL]
  refine ⟨fun q hq => lvP_ok 1048576 64 true (prL l) (by omega) (by omega) (prL_bd hb) q (List.mem_reverse.1 hq), ?_, ndN64 hl⟩
  rw [wrR, wrN_reverse, wrN_lvP _ _ _ rfl, hpl]
theorem ndW_may {leaf : Bool} {sh : Int} {ps : List (Int × Int)} (h0 : 0 ≤ sh) (h1 : sh ≤ 1048576) (h7 : ps.length ≤ 7) (hp : ∀ p, p ∈ ps → (0 ≤ p.1 ∧ p.1 ≤ 1048576) ∧ 0 ≤ p.2 ∧ p.2 ≤ 1048576) : (ndW leaf sh ps).all mayW = true ∧ (ndW leaf sh ps).length = 16 := by
  refine ⟨?_, ndK_length (Nat.le_refl _) h7⟩
  rw [List.all_eq_true]
  intro x hx
  unfold ndW ndK at hx
  rw [List.take_length] at hx
  simp only [List.cons_append, List.mem_cons, List.mem_append, List.mem_replicate] at hx
  rw [mayW, decide_eq_true_eq]
  rcases hx with rfl | hx | ⟨_, rfl⟩
  · split <;> omega
  · simp only [flatP, List.mem_flatMap, List.mem_cons, List.not_mem_nil, or_false] at hx
    obtain ⟨p, hp', hx⟩ := hx
    have := hp p hp'
    rcases hx with rfl | rfl
    · omega
    · split <;> omega
  · omega
theorem ofR_len {w : List Int} (h : w.all mayW = true) : (ofR w).length = w.length * 8 := by
  rw [ofR, if_pos h, cat_length]
theorem nbB_len {leaf : Bool} {ps : List (Int × Int)} {sh : Int} (k : Nat) (h0 : 0 ≤ sh) (h1 : sh ≤ 1048576) (hp : ∀ p, p ∈ ps → (0 ≤ p.1 ∧ p.1 ≤ 1048576) ∧ 0 ≤ p.2 ∧ p.2 ≤ 1048576) : (nbB leaf ps sh k).length = 128 := by
  obtain ⟨a, b⟩ := ndW_may (leaf := leaf) h0 h1 (chk_len ps k) fun p hp' => hp p (chk_mem hp')
  rw [nbB, ofR_len a, b]
theorem lvB_len {leaf : Bool} {ps : List (Int × Int)} {sh : Int} (k : Nat) (h0 : 0 ≤ sh) (h1 : sh ≤ 1048576) (hp : ∀ p, p ∈ ps → (0 ≤ p.1 ∧ p.1 ≤ 1048576) ∧ 0 ≤ p.2 ∧ p.2 ≤ 1048576) : (lvB leaf ps sh k).length = 128 * k := by
  induction k with
  | zero => rfl
  | succ k ih => rw [lvB_succ, List.length_append, ih, nbB_len k h0 h1 hp]; omega
theorem wrG_len : ∀ {L : List Lv} {b : Nat}, (∀ q, q ∈ L → LvOk 1048576 64 q) → b + wrN L ≤ 1048576 → (wrG L b).length = 128 * wrN L
  | [], b, h, hb => rfl
  | q :: L, b, h, hb => by
    simp only [wrN] at hb ⊢
    simp only [wrG, List.length_append]
    rw [lvB_len _ (by omega) (by omega) (h q (by simp)).bd, wrG_len (fun q hq => h q (by simp [hq])) (by omega)]
    omega
end Go.Proofs.Ythalikgchafjiaa

namespace Go.Proofs.Ythalikgchafjiaa
open Go Go.Proofs.Ythalikgchafjiaa.V
set_option maxRecDepth 20000
attribute [local irreducible] CallS AOK AOKn ALoop Side Ref.ok
/-! Trees in bytes. -/
theorem nest_app {xs : List AV} {sp : List (List AV)} {j : Int} {x : AV} {K : List AV → Prop} (h : xs[j.toNat]? = some x) (hk : K [x]) : nthR ((xs.map fun x => [x]) ++ sp) (0 + j.toNat) K :=
  nthR_intro (x := [x]) (by rw [Nat.zero_add, List.getElem?_append_left (by rw [List.length_map]; exact (List.getElem?_eq_some_iff.1 h).1)]; simp [h]) hk
theorem Back_call (σ : AH) (x : AV) (Q : AV → AH → Prop) (h1 : x.cells = [x]) (h2 : x.okCells = true) (h3 : x.cells.length = 1) (h : Q (.fn F.slices_Backward_1 [.ptr σ.length 0 0 0]) (σ ++ [{ sz := 1, els := [[x]], gen := 0, wr := true, pure := allFlat [x] }])) : CallS Try.prog F.slices_Backward [x] σ Q := by
  refine call_of_body mixed fc_slices_Backward_ok (by simp [fc_slices_Backward]) ?_
  repeat' (first
    | ((with_reducible refine Side.intro ?_) <;> (first
    | omega
    ))
    | ((conv => whnf) <;> (first
    | (with_reducible refine and_side ?_ ?_)
    ))
    )
  all_goals (conv => whnf)
  all_goals (try dsimp only)
  rw [h1]
  simpa [packA, newB, allFlat, AV.cells, AV.flat] using h
theorem Back_iterO {σ : AH} {idb id : Nat} {s : AV} {xs : List AV} {J : Nat → AH → Prop} {Y : List AV → AH → (AV → AH → Prop) → Prop} {Q : AH → Prop} (hl : xs.length ≤ 4611686018427)
    (hJ : ∀ k σ', J k σ' → Own σ' 1 s (xs.map fun x => [x]) ∧ ∃ p, σ'[idb]? = some { sz := 1, els := [[s]], gen := 0, wr := true, pure := p }) (h0 : J 0 σ) (hn : ∀ σ', J xs.length σ' → Q σ')
    (hY : ∀ k σ' x, k < xs.length → J k σ' → xs[xs.length - 1 - k]? = some x → Y [.rsl id 0 1 0 none, .int .i64 ((xs.length : Int) - 1 - k), x] σ' fun y σ'' => y = .bool true ∧ J (k + 1) σ'') : IterS Try.prog F.slices_Backward_1 [.ptr idb 0 0 0] σ id Y Q := by
  refine IterS.of fc_slices_Backward_1_ok rok_Backward (by simp [fc_slices_Backward_1]) ?_
  obtain ⟨hs, p, hb⟩ := hJ 0 σ h0
  have hxl : (xs.map fun x => [x]).length = xs.length := List.length_map _
  repeat' (first
    | ((conv => whnf) <;> (first
    | (with_reducible refine and_same ?_)
    | ((with_reducible apply Br.yes) ; (focus omega))
    | ((with_reducible apply blkAt_step) ; (focus (first
    | ((repeat (first
    | assumption
    )); done)
    )) ; (focus (first | rfl | assumption | omega)) ; (focus (first | rfl | assumption)) ; (try dsimp only))
    | ((with_reducible apply lenR_own) ; (focus assumption))
    ))
    )
  all_goals (conv => whnf)
  all_goals (try dsimp only)
  refine loop_at (α := Nat × AH) (fun a => [(3, .int .i64 ((xs.length : Int) - 1 - a.1))]) (fun a => a.2) (fun a => a.1 ≤ xs.length ∧ J a.1 a.2) (fun a => xs.length - a.1) (0, σ) ⟨by omega, h0⟩ (by rw [hxl]; simp [Fr.upd, Fr.pick]) rfl ?_
  rintro ⟨k, σ1⟩ ⟨hk, hJk⟩
  dsimp only at hk hJk ⊢
  obtain ⟨hs1, p1, hb1⟩ := hJ k σ1 hJk
  by_cases hlt : k < xs.length
  · obtain ⟨x, hx⟩ : ∃ x, xs[xs.length - 1 - k]? = some x := ⟨_, List.getElem?_eq_getElem (by omega)⟩
    have hx' : xs[((xs.length : Int) - 1 - k).toNat]? = some x := by rw [← hx]; congr 1; omega
    repeat' (first
      | ((with_reducible refine Side.intro ?_) <;> (first
      | omega
      ))
      | ((conv => whnf) <;> (first
      | (with_reducible refine and_same ?_)
      | ((with_reducible apply Br.yes) ; (focus omega))
      | ((with_reducible apply blkAt_step) ; (focus (first
      | ((repeat (first
      | assumption
      )); done)
      )) ; (focus (first | rfl | assumption | omega)) ; (focus (first | rfl | assumption)) ; (try dsimp only))
      | ((with_reducible apply nest_app) ; (focus assumption))
      | ((with_reducible apply ia_own) ; (focus assumption))
      | (with_reducible intro _)
      ))
      )
    all_goals (conv => whnf)
    all_goals (try dsimp only)
    refine ⟨_, ?_, hY k σ1 x hlt hJk hx⟩
    rintro _ σ2 ⟨rfl, hJ2⟩
    repeat' (first
      | ((conv => whnf) <;> (first
      | (with_reducible refine and_same ?_)
      | ((with_reducible apply Br.yes) ; (focus omega))
      ))
      )
    all_goals (conv => whnf)
    all_goals (try dsimp only)
    exact ⟨(k + 1, σ2), by simp only [show (xs.length : Int) - 1 - (k + 1 : Nat) = (xs.length : Int) - 1 - k - 1 from by omega]; rfl, rfl, ⟨by omega, hJ2⟩, by omega⟩
  · repeat' (first
      | ((conv => whnf) <;> (first
      | (with_reducible refine and_same ?_)
      | ((with_reducible apply Br.no) ; (focus omega))
      ))
      )
    all_goals (conv => whnf)
    all_goals (try dsimp only)
    have e : k = xs.length := by omega
    subst e
    exact hn _ hJk
theorem put_nil (leaf : Bool) (sh : Int) : AOKn Try.prog F.tree_node_put [.agg [.bool leaf, .nils], .int .i64 sh] fun y => y = .sl 1 (bs (ofR (ndW leaf sh []))) true := by
  refine AOKn.by_steps mixed fc_tree_node_put_ok (by simp [fc_tree_node_put]) ?_
  cases leaf
  · repeat' (first
      | ((with_reducible refine Side.intro ?_) <;> (first
      | omega
      | exact Nat.le_of_ble_eq_true rfl
      | exact rfl
      ))
      | ((conv => whnf) <;> (first
      | (with_reducible refine and_same ?_)
      | (with_reducible refine and_side ?_ ?_)
      | ((with_reducible apply Br.yes) ; (focus omega))
      | ((with_reducible apply blkAt_step) ; (focus (first
      | exact rfl
      )) ; (focus (first | rfl | assumption | omega)) ; (focus (first | rfl | assumption)) ; (try dsimp only))
      | (with_reducible refine IaW.of ?_)
      | (with_reducible refine lenR_nils ?_)
      ))
      )
    all_goals (conv => whnf)
    all_goals (try dsimp only)
    refine loop_at (α := AH) (fun a => [(28, .int .i64 0)]) (fun a => a) (fun a => a[1]? = some { sz := 1, els := is (ndK 0 sh [] 0), gen := 0, wr := true, pure := true }) (fun _ => 0) _ ?_ rfl rfl ?_
    · rw [ndK_zero]
      rfl
    rintro σ hb
    have hkl := ndK_length (h := 0) (sh := sh) (ps := []) (Nat.zero_le 0) (by simp)
    have hil := is_length (ndK 0 sh [] 0)
    have how : Own σ 1 (.rsl 1 0 0 16 none) (is (ndK 0 sh [] 0)) := .inr ⟨1, 0, [], by rw [hil, hkl], by rw [List.append_nil]; exact hb⟩
    have hW : ndW false sh [] = ndK 0 sh [] 0 := rfl
    repeat' (first
      | ((conv => whnf) <;> (first
      | (with_reducible refine and_same ?_)
      | ((with_reducible apply Br.no) ; (focus omega))
      ))
      )
    all_goals (conv => whnf)
    all_goals (try dsimp only)
    refine Of_call _ (by rw [hkl]; omega) (Looks.ownis how) fun σ' y hg hy hnw => ?_
    rw [← hW] at hy ⊢
    skip
    all_goals (conv => whnf)
    all_goals (try dsimp only)
    exact outNR_own hy (fresh_bs _) rfl
  · repeat' (first
      | ((with_reducible refine Side.intro ?_) <;> (first
      | omega
      | exact Nat.le_of_ble_eq_true rfl
      | exact rfl
      ))
      | ((conv => whnf) <;> (first
      | (with_reducible refine and_same ?_)
      | (with_reducible refine and_side ?_ ?_)
      | ((with_reducible apply Br.yes) ; (focus omega))
      | ((with_reducible apply blkAt_step) ; (focus (first
      | exact rfl
      )) ; (focus (first | rfl | assumption | omega)) ; (focus (first | rfl | assumption)) ; (try dsimp only))
      | (with_reducible refine IaW.of ?_)
      | (with_reducible refine lenR_nils ?_)
      ))
      )
    all_goals (conv => whnf)
    all_goals (try dsimp only)
    refine loop_at (α := AH) (fun a => [(28, .int .i64 0)]) (fun a => a) (fun a => a[1]? = some { sz := 1, els := is (ndK 1 0 [] 0), gen := 0, wr := true, pure := true }) (fun _ => 0) _ ?_ rfl rfl ?_
    · rw [ndK_zero]
      rfl
    rintro σ hb
    have hkl := ndK_length (h := 1) (sh := 0) (ps := []) (Nat.zero_le 0) (by simp)
    have hil := is_length (ndK 1 0 [] 0)
    have how : Own σ 1 (.rsl 1 0 0 16 none) (is (ndK 1 0 [] 0)) := .inr ⟨1, 0, [], by rw [hil, hkl], by rw [List.append_nil]; exact hb⟩
    have hW : ndW true sh [] = ndK 1 0 [] 0 := rfl
    repeat' (first
      | ((conv => whnf) <;> (first
      | (with_reducible refine and_same ?_)
      | ((with_reducible apply Br.no) ; (focus omega))
      ))
      )
    all_goals (conv => whnf)
    all_goals (try dsimp only)
    refine Of_call _ (by rw [hkl]; omega) (Looks.ownis how) fun σ' y hg hy hnw => ?_
    rw [← hW] at hy ⊢
    skip
    all_goals (conv => whnf)
    all_goals (try dsimp only)
    exact outNR_own hy (fresh_bs _) rfl
attribute [local irreducible] lvR ndV chk
theorem chk_nd (leaf : Bool) (ps : List (Int × Int)) (k : Nat) : ndV leaf ps k = [.bool leaf, .sl 2 (sp (chk ps k)) true] := by unfold ndV chk; rfl
theorem lvP_len : ∀ (ps : List (Int × Int)) (leaf : Bool) (L : List Lv), lvP leaf ps = L → L.length ≤ ps.length + 1 ∧ 0 < L.length := by
  intro ps
  induction h : ps.length using Nat.strongRecOn generalizing ps with
  | ind n ih =>
    subst h
    intro leaf L hL
    subst hL
    by_cases h : 1 < hol1 ps.length
    · rw [lvP_more h]
      have h2 := hol1_lt h
      have := (ih (hol1 ps.length) h2 (upP ps) (upP_length ps) false _ rfl).1
      simp only [List.length_cons]
      omega
    · rw [lvP_one h]
      simp
/-- A node of a level, as it stands there. -/
theorem nd_call {leaf : Bool} {ps : List (Int × Int)} {k : Nat} {sh : Int} (hk : k < hol1 ps.length) (h0 : 0 ≤ sh) (h1 : sh ≤ 1048576) (hp : ∀ p, p ∈ ps → (0 ≤ p.1 ∧ p.1 ≤ 1048576) ∧ 0 ≤ p.2 ∧ p.2 ≤ 1048576) : ∃ v, (lvR leaf ps)[k]? = some [.bool leaf, v] ∧
    ∀ (σ : AH) (Q : AV → AH → Prop), (∀ σ' y, Gr σ σ' none → Own σ' 1 y (bs (nbB leaf ps sh k)) → New σ y → Q y σ') → CallS Try.prog F.tree_node_put [.agg [.bool leaf, v], .int .i64 sh] σ Q := by
  by_cases h : ps.length = 0
  · have hps : ps = [] := List.length_eq_zero_iff.1 h
    subst hps
    have hk0 : k = 0 := by
      have : hol1 ([] : List (Int × Int)).length = 1 := rfl
      omega
    subst hk0
    refine ⟨.nils, by unfold lvR; rfl, fun σ Q hQ => call_sl (put_nil leaf sh) (.cons (.same rfl) (.cons (Looks.int _ _ _) .nil)) fun σ' y g o n => hQ σ' y g ?_ n⟩
    have e : nbB leaf [] sh 0 = ofR (ndW leaf sh []) := by unfold nbB chk; rfl
    rw [e]; exact o
  · have hlt : 7 * k < ps.length := by unfold hol1 hol at hk; omega
    refine ⟨.sl 2 (sp (chk ps k)) true, by rw [lvR_get hlt, chk_nd], fun σ Q hQ => call_sl (put_ok leaf (chk ps k) sh (chk_len _ _) h0 h1 fun p hp' => (hp p (chk_mem hp')).2) (.cons (looks_nd _ _ _) (.cons (Looks.int _ _ _) .nil)) hQ⟩
theorem nthR_atv {rows : List (List AV)} {i : Int} {r : List AV} {K : List AV → Prop} (h : rows[i.toNat]? = some r) (hk : K r) : nthR rows i.toNat K := nthR_intro h hk
theorem Write_ok (pages room : Int) (l : List (Int × Int × Int)) (hl : l.length ≤ 4611686018427) : AOKn Try.prog F.tree_Write [.int .i64 pages, .int .i64 room, .sl 3 (bk l) false] fun y => y = .tup [.sl 1 (bs (wrL pages room l)) true, .int .i64 (wrE pages room l)] := by
  have hn := bk_length l
  refine AOKn.by_steps mixed fc_tree_Write_ok (by simp [fc_tree_Write]) ?_
  skip
  all_goals (conv => whnf)
  all_goals (try dsimp only)
  refine call_one (Right_ok pages l hl) (.cons (Looks.int _ _ _) (.cons (Looks.bk _ _ _) .nil)) rfl fun σ1 hg1 => ?_
  cases hR : rt pages l
  · repeat' (first
      | ((with_reducible refine Side.intro ?_) <;> (first
      | (simp only [List.append_nil, List.nil_append, List.map_nil]; first | exact List.nodup_nil | exact nodup_bid1 _ | exact nodup_bid2 (by assumption))
      | ((first | refine fresh_tup ?_ | skip); (repeat (first | exact fresh_bs _ |  exact FreshA.sl _ _ FreshA_bs | exact FreshA.sl _ _ FreshA_is | exact FreshA.nils | exact FreshA.nilp | exact FreshA.int _ _ | exact FreshA.bool _ | exact FreshA.str _ | exact fresh_nil | refine fresh_cons ?_ ?_ | with_reducible refine fresh_aggR ?_ | with_reducible refine fresh_agg ?_ | with_reducible exact fresh_nilA | with_reducible refine fresh_consA ?_ ?_)); done)
      ))
      | ((conv => whnf) <;> (first
      | (with_reducible refine and_side ?_ ?_)
      | (with_reducible refine NOut.lit ?_)
      ))
      )
    all_goals (conv => whnf)
    all_goals (try dsimp only)
    have e1 : wrE pages room l = 1 := by rw [wrE, if_neg (by rw [hR]; simp)]
    rw [wrL, e1, if_neg (by decide)]
    exact ret_nilt rfl
  · obtain ⟨hp0, hp1, hl64, hbd⟩ := rt_bd hR
    obtain ⟨hq1, hq2, hq3⟩ := wrR_ok hR
    have hE : wrE pages room l = if room < ndI l.length ∨ 13 < room then 2 else 0 := by rw [wrE, if_pos hR]
    have hI : ndI l.length = (ndN l.length : Nat) := by rw [ndI, if_neg (by omega)]; rfl
    repeat' (first
      | ((conv => whnf) <;> (first
      | (with_reducible refine lenR_sl ?_)
      ))
      )
    all_goals (conv => whnf)
    all_goals (try dsimp only)
    refine call_one (Nodes_ok _ (by omega)) (.cons (Looks.int _ _ _) .nil) rfl fun σ2 hg2 => ?_
    rw [hn]
    by_cases hr1 : room < ndI l.length
    · repeat' (first
        | ((with_reducible refine Side.intro ?_) <;> (first
        | (simp only [List.append_nil, List.nil_append, List.map_nil]; first | exact List.nodup_nil | exact nodup_bid1 _ | exact nodup_bid2 (by assumption))
        | ((first | refine fresh_tup ?_ | skip); (repeat (first | exact fresh_bs _ |  exact FreshA.sl _ _ FreshA_bs | exact FreshA.sl _ _ FreshA_is | exact FreshA.nils | exact FreshA.nilp | exact FreshA.int _ _ | exact FreshA.bool _ | exact FreshA.str _ | exact fresh_nil | refine fresh_cons ?_ ?_ | with_reducible refine fresh_aggR ?_ | with_reducible refine fresh_agg ?_ | with_reducible exact fresh_nilA | with_reducible refine fresh_consA ?_ ?_)); done)
        ))
        | ((conv => whnf) <;> (first
        | (with_reducible refine and_same ?_)
        | (with_reducible refine and_side ?_ ?_)
        | ((with_reducible apply Br.yes) ; (focus omega))
        | (with_reducible refine NOut.lit ?_)
        ))
        )
      all_goals (conv => whnf)
      all_goals (try dsimp only)
      have e1 : wrE pages room l = 2 := by rw [hE, if_pos (.inl hr1)]
      rw [wrL, e1, if_neg (by decide)]
      exact ret_nilt rfl
    · repeat' (first
        | ((conv => whnf) <;> (first
        | (with_reducible refine and_same ?_)
        | ((with_reducible apply Br.no) ; (focus omega))
        ))
        )
      all_goals (conv => whnf)
      all_goals (try dsimp only)
      refine call_one (Nodes_ok _ (by omega)) (.cons (Looks.int _ _ _) .nil) rfl fun σ3 hg3 => ?_
      rw [ndN_64]
      by_cases hr2 : 13 < room
      · repeat' (first
          | ((with_reducible refine Side.intro ?_) <;> (first
          | (simp only [List.append_nil, List.nil_append, List.map_nil]; first | exact List.nodup_nil | exact nodup_bid1 _ | exact nodup_bid2 (by assumption))
          | ((first | refine fresh_tup ?_ | skip); (repeat (first | exact fresh_bs _ |  exact FreshA.sl _ _ FreshA_bs | exact FreshA.sl _ _ FreshA_is | exact FreshA.nils | exact FreshA.nilp | exact FreshA.int _ _ | exact FreshA.bool _ | exact FreshA.str _ | exact fresh_nil | refine fresh_cons ?_ ?_ | with_reducible refine fresh_aggR ?_ | with_reducible refine fresh_agg ?_ | with_reducible exact fresh_nilA | with_reducible refine fresh_consA ?_ ?_)); done)
          ))
          | ((conv => whnf) <;> (first
          | (with_reducible refine and_same ?_)
          | (with_reducible refine and_side ?_ ?_)
          | ((with_reducible apply Br.yes) ; (focus omega))
          | (with_reducible refine NOut.lit ?_)
          ))
          )
        all_goals (conv => whnf)
        all_goals (try dsimp only)
        have e1 : wrE pages room l = 2 := by rw [hE, if_pos (.inr hr2)]
        rw [wrL, e1, if_neg (by decide)]
        exact ret_nilt rfl
      · have e1 : wrE pages room l = 0 := by rw [hE, if_neg (by omega)]
        rw [wrL, e1, if_pos rfl]
        repeat' (first
          | ((with_reducible refine Side.intro ?_) <;> (first
          | exact Nat.le_of_ble_eq_true rfl
          | exact rfl
          ))
          | ((conv => whnf) <;> (first
          | (with_reducible refine and_same ?_)
          | (with_reducible refine and_side ?_ ?_)
          | ((with_reducible apply Br.no) ; (focus omega))
          | ((with_reducible apply blkAt_step) ; (focus (first
          | ((repeat (first
          | exact get_new
          )); done)
          )) ; (focus (first | rfl | assumption | omega)) ; (focus (first | rfl | assumption)) ; (try dsimp only))
          ))
          )
        all_goals (conv => whnf)
        all_goals (try dsimp only)
        refine call_sl (levels_ok l hl64 fun e he => by have := hbd e he; omega) (.cons (Looks.bk _ _ _) .nil) fun σ4 y hg4 hy hny => ?_
        have c8 := hg4.2 σ3.length { sz := 1, els := [[.nils]], gen := 0, wr := true, pure := true } (get_set_ne (by simp only [newB_length]; omega) (get_old get_new)) (by simp)
        have c9 := hg4.2 (σ3.length + 1) { sz := 1, els := [[.int .i64 0]], gen := 0, wr := true, pure := true } (by simp only [newB_length]; exact get_set (b0 := { sz := 1, els := [[.int .i64 0]], gen := 0, wr := true, pure := true }) (by rw [← newB_length σ3 1 [[AV.nils]] true]; exact get_new)) (by simp)
        have hl4 := hg4.1
        simp only [List.length_set, newB_length] at hl4
        have hy2 : ∀ id, y.bid = some id → σ3.length + 2 ≤ id := fun id hid => by
          have := hny id hid
          simpa only [List.length_set, newB_length] using this
        generalize hL : lvP true (prL l) = L at *
        have hRL : wrR l = L.reverse := by rw [wrR, hL]
        obtain ⟨xs, hxs⟩ : ∃ xs, xs = (lvD L).map fun d => AV.sl 2 d true := ⟨_, rfl⟩
        have hV : lvV L = xs.map fun x => [x] := by rw [hxs, lvV, List.map_map]; rfl
        have hxl : xs.length = L.length := by rw [hxs]; simp [lvD]
        rw [hV] at hy
        obtain ⟨o1, o2, o3⟩ := hy.one
        skip
        all_goals (conv => whnf)
        all_goals (try dsimp only)
        refine Back_call _ _ _ o1 o2 o3 ?_
        repeat' (first
          | ((conv => whnf) <;> (first
          | (with_reducible intro _)
          ))
          )
        all_goals (conv => whnf)
        all_goals (try dsimp only)
        rename_i lr
        simp only [List.length_append, List.length_cons, List.length_nil, Nat.add_assoc, Nat.reduceAdd, Nat.zero_add]
        refine Back_iterO (xs := xs) (s := y) (J := fun k σ' => ∃ o p8 p9 pb, σ'[σ3.length]? = some { sz := 1, els := [[o]], gen := 0, wr := true, pure := p8 } ∧ σ'[σ3.length + 1]? = some { sz := 1, els := [[.int .i64 (wrN (L.reverse.take k) : Nat)]], gen := 0, wr := true, pure := p9 } ∧ Own σ' 1 y (xs.map fun x => [x]) ∧ σ'[σ4.length]? = some { sz := 1, els := [[y]], gen := 0, wr := true, pure := pb } ∧ σ'[σ4.length + 1]? = some (lblk (lst lr .ready)) ∧ Own σ' 1 o (bs (wrG (L.reverse.take k) 0)) ∧ (∀ id, o.bid = some id → σ4.length + 1 < id)) (by have := (lvP_len _ _ _ hL).1; rw [show (prL l).length = l.length from by simp [prL]] at this; omega) ?_ ?_ ?_ ?_
        · rintro k σ' ⟨o, p8, p9, pb, k1, k2, k3, k4, k5, k6, k7⟩
          exact ⟨k3, _, k4⟩
        · refine ⟨.nils, true, true, _, get_old (get_old c8), get_old (get_old c9), Own.keepN (Gr.append _ _) (Own.keepN (Gr.append _ _) hy), get_old get_new, ?_, Own.nil _ _, fun id h => by cases h⟩
          have e : σ4.length + 1 = (σ4 ++ [({ sz := 1, els := [[y]], gen := 0, wr := true, pure := allFlat [y] } : Blk)]).length := by simp
          rw [e]; exact get_new
        · rintro σ' ⟨o, p8, p9, pb, k1, k2, k3, k4, k5, k6, k7⟩
          refine ⟨k5, ?_⟩
          have hl5 := (List.getElem?_eq_some_iff.1 k5).1
          rw [hxl, List.take_of_length_le (by rw [List.length_reverse]; exact Nat.le_refl _), ← hRL] at k6
          have hWl := wrG_len (b := 0) hq1 (by omega)
          have hWb := bs_length (wrG (wrR l) 0)
          rw [hq2] at hWl
          have k1' : (σ'.set (σ4.length + 1) (lblk (lst lr .exhausted)))[σ3.length]? = some { sz := 1, els := [[o]], gen := 0, wr := true, pure := p8 } := get_set_ne (by omega) k1
          have k6' : Own (σ'.set (σ4.length + 1) (lblk (lst lr .exhausted))) 1 o (bs (wrG (wrR l) 0)) := k6.keep (Gr.set _ _ _) (.inr fun e => by have := k7 _ e.symm; omega)
          repeat' (first
            | ((with_reducible refine Side.intro ?_) <;> (first
            | omega
            ))
            | ((conv => whnf) <;> (first
            | (with_reducible refine and_same ?_)
            | (with_reducible refine and_side ?_ ?_)
            | ((with_reducible apply Br.yes) ; (focus omega))
            | ((with_reducible apply blkAt_step) ; (focus (first
            | ((repeat (first
            | assumption
            )); done)
            )) ; (focus (first | rfl | assumption | omega)) ; (focus (first | rfl | assumption)) ; (try dsimp only))
            | ((with_reducible apply lenR_own) ; (focus assumption))
            ))
            )
          all_goals (conv => whnf)
          all_goals (try dsimp only)
          refine appendR_own (rows := bs (wrG (wrR l) 0)) k6' (by rw [hWb, List.length_replicate]; omega) ?_
          intro x' σ6 ho' hg' hb'
          have hrows : bs (wrG (wrR l) 0) ++ List.replicate (room * 128 - ((bs (wrG (wrR l) 0)).length : Int)).toNat [AV.int .u8 0] = bs (wrB room l) := by
            rw [bs_replicate, bs_append, hWb, wrB, show (room * 128 - ((wrG (wrR l) 0).length : Int)).toNat = 128 * room.toNat - (wrG (wrR l) 0).length from by omega]
          rw [hrows] at ho'
          repeat' (first
            | ((with_reducible refine Side.intro ?_) <;> (first
            | (simp only [List.append_nil, List.nil_append, List.map_nil]; first | exact List.nodup_nil | exact nodup_bid1 _ | exact nodup_bid2 (by assumption))
            | ((first | refine fresh_tup ?_ | skip); (repeat (first | exact fresh_bs _ |  exact FreshA.sl _ _ FreshA_bs | exact FreshA.sl _ _ FreshA_is | exact FreshA.nils | exact FreshA.nilp | exact FreshA.int _ _ | exact FreshA.bool _ | exact FreshA.str _ | exact fresh_nil | refine fresh_cons ?_ ?_ | with_reducible refine fresh_aggR ?_ | with_reducible refine fresh_agg ?_ | with_reducible exact fresh_nilA | with_reducible refine fresh_consA ?_ ?_)); done)
            ))
            | ((conv => whnf) <;> (first
            | (with_reducible refine and_side ?_ ?_)
            | ((with_reducible apply NOut.own) ; (focus assumption))
            | (with_reducible refine NOut.lit ?_)
            ))
            )
          all_goals (conv => whnf)
          all_goals (try dsimp only)
          exact ret_same rfl
        · rintro k σ' x hk ⟨o, p8, p9, pb, k1, k2, k3, k4, k5, k6, k7⟩ hx
          refine ⟨_, _, rfl, rfl, k5, ?_⟩
          have hl5 := (List.getElem?_eq_some_iff.1 k5).1
          obtain ⟨q, hq, rfl⟩ : ∃ q, L.reverse[k]? = some q ∧ x = .sl 2 (lvR q.1 q.2) true := by
            rw [hxs] at hx
            rw [List.getElem?_map] at hx
            obtain ⟨d, hd, rfl⟩ := Option.map_eq_some_iff.1 hx
            rw [lvD, List.getElem?_map] at hd
            obtain ⟨q, hq, rfl⟩ := Option.map_eq_some_iff.1 hd
            refine ⟨q, ?_, rfl⟩
            rw [List.getElem?_reverse (by omega), ← hq]
            congr 1
            simp only [List.length_map, lvD]
          obtain ⟨leaf, ps⟩ := q
          dsimp only at hx ⊢
          have hqok := hq1 (leaf, ps) (by rw [hRL]; exact List.mem_of_getElem? hq)
          have hqb := hqok.bd
          have hql := hqok.len
          dsimp only at hqb hql
          have htk : L.reverse.take (k + 1) = L.reverse.take k ++ [(leaf, ps)] := by rw [List.take_add_one, hq]; rfl
          have hwn : wrN (L.reverse.take (k + 1)) = wrN (L.reverse.take k) + hol1 ps.length := by rw [htk, wrN_append]; simp [wrN]
          have hwg : wrG (L.reverse.take (k + 1)) 0 = wrG (L.reverse.take k) 0 ++ lvB leaf ps ((wrN (L.reverse.take k) + hol1 ps.length : Nat) : Int) (hol1 ps.length) := by
            rw [htk, wrG_append]; simp [wrG]
          have hle : wrN (L.reverse.take k) + hol1 ps.length ≤ 20 := by
            rw [← hwn]
            have : wrN (wrR l) = wrN (L.reverse.take (k + 1)) + wrN (L.reverse.drop (k + 1)) := by rw [hRL, ← wrN_append, List.take_append_drop]
            omega
          have hWl := wrG_len (L := L.reverse.take k) (b := 0) (fun q hq => hq1 q (by rw [hRL]; exact List.mem_of_mem_take hq)) (by omega)
          generalize wrN (L.reverse.take k) = bn at *
          generalize wrG (L.reverse.take k) 0 = W at *
          have hrl := lvR_length leaf ps
          simp only [newB_length]
          have k1' : (σ'.set (σ4.length + 1) (lblk (lst lr .busy)))[σ3.length]? = some { sz := 1, els := [[o]], gen := 0, wr := true, pure := p8 } := get_set_ne (by omega) k1
          have k2' : (σ'.set (σ4.length + 1) (lblk (lst lr .busy)))[σ3.length + 1]? = some { sz := 1, els := [[.int .i64 (bn : Nat)]], gen := 0, wr := true, pure := p9 } := get_set_ne (by omega) k2
          repeat' (first
            | ((with_reducible refine Side.intro ?_) <;> (first
            | omega
            | exact Nat.le_of_ble_eq_true rfl
            | exact rfl
            ))
            | ((conv => whnf) <;> (first
            | (with_reducible refine and_same ?_)
            | (with_reducible refine and_side ?_ ?_)
            | ((with_reducible apply Br.yes) ; (focus omega))
            | ((with_reducible apply blkAt_step) ; (focus (first
            | ((repeat (first
            | assumption
            )); done)
            )) ; (focus (first | rfl | assumption | omega)) ; (focus (first | rfl | assumption)) ; (try dsimp only))
            | (with_reducible refine lenR_sl ?_)
            ))
            )
          all_goals (conv => whnf)
          all_goals (try dsimp only)
          have hbn : IntKind.wrap .i64 0 = 0 := rfl
          refine loop_at (α := Nat × AH × AV) (fun a => [(39, .int .i64 a.1)]) (fun a => a.2.1) (fun a => a.1 ≤ hol1 ps.length ∧ (∃ p, a.2.1[σ3.length]? = some { sz := 1, els := [[a.2.2]], gen := 0, wr := true, pure := p }) ∧ (∃ p, a.2.1[σ3.length + 1]? = some { sz := 1, els := [[.int .i64 ((bn + hol1 ps.length : Nat) : Int)]], gen := 0, wr := true, pure := p }) ∧ Own a.2.1 1 y (xs.map fun x => [x]) ∧ (∃ p, a.2.1[σ4.length]? = some { sz := 1, els := [[y]], gen := 0, wr := true, pure := p }) ∧ a.2.1[σ4.length + 1]? = some (lblk (lst lr .busy)) ∧ Own a.2.1 1 a.2.2 (bs (W ++ lvB leaf ps ((bn + hol1 ps.length : Nat) : Int) a.1)) ∧ (∀ id, a.2.2.bid = some id → σ4.length + 1 < id)) (fun a => hol1 ps.length - a.1) (0, _, o) ⟨Nat.zero_le _, ?_, ?_, ?_, ?_, ?_, ?_, k7⟩ rfl rfl ?_
          · exact ⟨_, get_set_ne (by omega) k1'⟩
          · dsimp only
            rw [hrl, Int.natCast_add]
            exact ⟨_, get_set k2'⟩
          · exact (k3.keep (Gr.set _ _ _) (.inr fun e => by have := k3.lt e.symm; have := hy.lt e.symm; omega)).keep (Gr.set _ _ _) (.inr fun e => by have := hy2 _ e.symm; omega)
          · exact ⟨_, get_set_ne (by omega) (get_set_ne (by omega) k4)⟩
          · exact get_set_ne (by omega) (get_set k5)
          · have e0 : W ++ lvB leaf ps ((bn + hol1 ps.length : Nat) : Int) 0 = W := by simp [lvB]
            dsimp only
            rw [e0]
            exact (k6.keep (Gr.set _ _ _) (.inr fun e => by have := k7 _ e.symm; omega)).keep (Gr.set _ _ _) (.inr fun e => by have := k7 _ e.symm; omega)
          rintro ⟨i, σ6, o6⟩ ⟨hi, ⟨q8, m1⟩, ⟨q9, m2⟩, m3, ⟨qb, m4⟩, m5, m6, m7⟩
          dsimp only at hi m1 m2 m3 m4 m5 m6 m7 ⊢
          by_cases hlt : i < hol1 ps.length
          · obtain ⟨v, hrow0, hcall⟩ := nd_call (leaf := leaf) (sh := ((bn + hol1 ps.length : Nat) : Int)) hlt (by omega) (by omega) hqb
            have hrow : (lvR leaf ps)[(i : Int).toNat]? = some [.bool leaf, v] := hrow0
            have hl6 := (List.getElem?_eq_some_iff.1 m5).1
            repeat' (first
              | ((with_reducible refine Side.intro ?_) <;> (first
              | omega
              | exact Nat.le_of_ble_eq_true rfl
              | exact rfl
              ))
              | ((conv => whnf) <;> (first
              | (with_reducible refine and_same ?_)
              | (with_reducible refine and_side ?_ ?_)
              | ((with_reducible apply Br.yes) ; (focus omega))
              | ((with_reducible apply blkAt_step) ; (focus (first
              | ((repeat (first
              | assumption
              | exact get_new
              | exact get_set get_new
              | apply get_old
              | (apply get_set_ne; (focus (first | omega | (simp only [newB_length, List.length_set, List.length_append, List.length_singleton, List.length_nil]; omega))))
              )); done)
              )) ; (focus (first | rfl | assumption | omega)) ; (focus (first | rfl | assumption)) ; (try dsimp only))
              | ((with_reducible apply nthR_atv) ; (focus assumption))
              | (with_reducible refine ia_sl ?_ ?_)
              ))
              )
            all_goals (conv => whnf)
            all_goals (try dsimp only)
            refine hcall _ _ fun σ7 z g7 oz nz => ?_
            have n1 := g7.2 _ _ (get_set_ne (by omega) (get_old m1)) (by simp)
            have n2 := g7.2 _ _ (get_set_ne (by omega) (get_old m2)) (by simp)
            have n3 := Own.keepN (Gr.trans (Gr.setNew (Gr.newN (Gr.refl _ _) _ _ _) (Nat.le_refl _) _) g7) m3
            have n4 := g7.2 _ _ (get_set_ne (by omega) (get_old m4)) (by simp)
            have n5 := g7.2 _ _ (get_set_ne (by omega) (get_old m5)) (by simp)
            have n6 := Own.keepN (Gr.trans (Gr.setNew (Gr.newN (Gr.refl _ _) _ _ _) (Nat.le_refl _) _) g7) m6
            have hl7 := g7.1
            simp only [List.length_set, newB_length] at hl7
            have hnb := nbB_len (leaf := leaf) (ps := ps) (sh := ((bn + hol1 ps.length : Nat) : Int)) i (by omega) (by omega) hqb
            have hlb := lvB_len (leaf := leaf) (ps := ps) (sh := ((bn + hol1 ps.length : Nat) : Int)) i (by omega) (by omega) hqb
            repeat' (first
              | ((with_reducible apply Gr.side) ; with_reducible assumption)
              | ((conv => whnf) <;> (first
              | (with_reducible refine and_side ?_ ?_)
              | ((with_reducible apply rowsR_own) ; (focus assumption))
              | (with_reducible refine AppC.frz ?_)
              ))
              )
            all_goals (conv => whnf)
            all_goals (try dsimp only)
            refine appendR_own (rows := bs (W ++ lvB leaf ps ((bn + hol1 ps.length : Nat) : Int) i)) n6 (by rw [bs_length, bs_length, List.length_append, hWl, hlb, hnb]; omega) ?_
            intro o7 σ8 ho8 hg8 hb8
            obtain ⟨c1, c2, c3⟩ := ho8.one
            have hne : ∀ j, j ≤ σ4.length + 1 → o6.bid ≠ some j := fun j hj e => by have := m7 j e; omega
            have hne7 : ∀ id, o7.bid = some id → σ4.length + 1 < id := fun id hid => by
              rcases hb8 with q | q
              · exact m7 id (q ▸ hid)
              · rw [q] at hid; cases hid; omega
            replace n1 := hg8.2 _ _ n1 (hne _ (by omega))
            replace n2 := hg8.2 _ _ n2 (hne _ (by omega))
            replace n3 := Own.keep hg8 n3 (by
              cases hb : y.bid with
              | none => exact .inl rfl
              | some id => exact .inr fun e => absurd (m7 id e) (by have := hy.lt hb; omega))
            replace n4 := hg8.2 _ _ n4 (hne _ (by omega))
            replace n5 := hg8.2 _ _ n5 (hne _ (by omega))
            repeat' (first
              | ((with_reducible refine Side.intro ?_) <;> (first
              | omega
              | (simp only [bs_length, List.length_append, List.length_cons, List.length_nil, List.length_take, List.length_drop, List.length_set, List.length_replicate]; omega)
              ))
              | ((conv => whnf) <;> (first
              | (with_reducible refine and_same ?_)
              | (with_reducible refine and_side ?_ ?_)
              | ((with_reducible apply blkAt_step) ; (focus (first
              | ((repeat (first
              | assumption
              )); done)
              )) ; (focus (first | rfl | assumption | omega)) ; (focus (first | rfl | assumption)) ; (try dsimp only))
              ))
              )
            all_goals (conv => whnf)
            all_goals (try dsimp only)
            rw [c1]
            repeat' (first
              | ((conv => whnf) <;> (first
              | (with_reducible refine and_same ?_)
              | ((with_reducible apply Br.yes) ; (focus omega))
              ))
              )
            all_goals (conv => whnf)
            all_goals (try dsimp only)
            refine ⟨(i + 1, _, o7), rfl, rfl, ⟨by omega, ⟨_, get_set n1⟩, ⟨_, get_set_ne (by omega) n2⟩, n3.keep (Gr.set _ _ _) (.inr fun e => by have := hy2 _ e.symm; omega), ⟨_, get_set_ne (by omega) n4⟩, get_set_ne (by omega) n5, ?_, hne7⟩, by omega⟩
            dsimp only
            rw [lvB_succ, ← List.append_assoc, ← bs_append]
            exact ho8.keep (Gr.set _ _ _) (.inr fun e => by have := hne7 _ e.symm; omega)
          · repeat' (first
              | ((with_reducible refine Side.intro ?_) <;> (first
              | omega
              | (simp; done)
              ))
              | ((conv => whnf) <;> (first
              | (with_reducible refine and_same ?_)
              | (with_reducible refine and_side ?_ ?_)
              | ((with_reducible apply Br.no) ; (focus omega))
              ))
              )
            all_goals (conv => whnf)
            all_goals (try dsimp only)
            have hiE : i = hol1 ps.length := by omega
            subst hiE
            rw [hwn, hwg]
            exact ⟨o6, _, _, _, get_set_ne (by omega) m1, get_set_ne (by omega) m2, m3.keep (Gr.set _ _ _) (.inr fun e => by have := hy.lt e.symm; omega), get_set_ne (by omega) m4, get_set m5, m6.keep (Gr.set _ _ _) (.inr fun e => by have := m7 _ e.symm; omega), m7⟩
end Go.Proofs.Ythalikgchafjiaa

namespace Go.Proofs.Ythalikgchafjiaa
open Go Go.Proofs.Ythalikgchafjiaa.V
set_option maxRecDepth 20000
attribute [local irreducible] CallS AOK AOKn ALoop Side Ref.ok
/-! The document's nodes. -/
def rwV (c : List (Int × Int)) : AV := if c.length = 0 then .nils else .sl 1 (is (flatP 0 c)) true
def rnV (leaf : Bool) (ps : List (Int × Int)) (k : Nat) : List AV := [rwV (chk ps k), .int .i64 ((chk ps k).length : Nat), .bool leaf, .int .i64 (ps[7 * k]?.getD (0, 0)).1]
def rnK (leaf : Bool) (ps : List (Int × Int)) (k : Nat) : List (List AV) := (List.range k).map (rnV leaf ps)
def rnR (leaf : Bool) (ps : List (Int × Int)) : List (List AV) := rnK leaf ps (hol1 ps.length)
theorem rnK_length (leaf : Bool) (ps : List (Int × Int)) (k : Nat) : (rnK leaf ps k).length = k := by simp [rnK]
theorem rnK_succ (leaf : Bool) (ps : List (Int × Int)) (k : Nat) : rnK leaf ps (k + 1) = rnK leaf ps k ++ [rnV leaf ps k] := by simp [rnK, List.range_succ]
theorem rnR_length (leaf : Bool) (ps : List (Int × Int)) : (rnR leaf ps).length = hol1 ps.length := rnK_length _ _ _
theorem rnR_get {leaf : Bool} {ps : List (Int × Int)} {k : Nat} (h : k < hol1 ps.length) : (rnR leaf ps)[k]? = some (rnV leaf ps k) := by
  simp only [rnR, rnK, List.getElem?_map]
  rw [List.getElem?_range h]
  rfl
theorem fresh_rn (leaf : Bool) (ps : List (Int × Int)) (k : Nat) : FreshA (.sl 4 (rnK leaf ps k) true) := by
  refine FreshA.sl _ _ fun x hx => ?_
  obtain ⟨r, hr, hx⟩ := List.mem_flatten.1 hx
  simp only [rnK, List.mem_map] at hr
  obtain ⟨k, _, rfl⟩ := hr
  simp only [rnV, List.mem_cons, List.not_mem_nil, or_false] at hx
  rcases hx with rfl | rfl | rfl | rfl
  · unfold rwV
    split
    · exact .nils
    · exact .sl _ _ FreshA_is
  · exact .int _ _
  · exact .bool _
  · exact .int _ _
theorem chk_length (ps : List (Int × Int)) (k : Nat) : (chk ps k).length = min 7 (ps.length - 7 * k) := by unfold chk; simp
theorem chk_get {ps : List (Int × Int)} {k j : Nat} (h : j < 7) : (chk ps k)[j]? = ps[7 * k + j]? := by unfold chk; simp [List.getElem?_take, h]
theorem flatP_snoc (sh : Int) (c : List (Int × Int)) (p : Int × Int) : flatP sh (c ++ [p]) = flatP sh c ++ [p.1, p.2 + sh] := by simp [flatP]
theorem is_two (a b : Int) : is [a, b] = [[.int .i64 a], [.int .i64 b]] := rfl
theorem nthR_is0 {L : List Int} {spr : List (List AV)} {v : Int} {K : List AV → Prop} (h : L[0]? = some v) (hk : K [.int .i64 v]) : nthR (is L ++ spr) (Int.toNat 0) K :=
  nthR_intro (x := [.int .i64 v]) (by
    show (is L ++ spr)[0]? = _
    rw [List.getElem?_append_left (by rw [is_length]; exact (List.getElem?_eq_some_iff.1 h).1)]
    simp [is, h]) hk
attribute [local irreducible] chk
theorem leaves_ok (l : List (Int × Int × Int)) (hl : l.length ≤ 64) (hb : ∀ e, e ∈ l → 0 ≤ e.2.1 ∧ e.2.1 ≤ 64 ∧ 0 ≤ e.2.2 ∧ e.2.2 ≤ 3) : AOKn Try.prog F.joistref14_leaves [.sl 3 (bk l) false] fun y => y = .sl 4 (rnR true (prL l)) true := by
  have hn := bk_length l
  have hpn : (prL l).length = l.length := by simp [prL]
  refine AOKn.by_steps mixed fc_joistref14_leaves_ok (by simp [fc_joistref14_leaves]) ?_
  skip
  all_goals (conv => whnf)
  all_goals (try dsimp only)
  refine loop_at (α := Nat × AH × AV) (fun a => [(3, a.2.2), (4, .int .i64 a.1)]) (fun a => a.2.1) (fun a => a.1 ≤ hol1 l.length ∧ Own a.2.1 4 a.2.2 (rnK true (prL l) a.1)) (fun a => hol1 l.length - a.1) (0, [], .nils) ⟨by omega, Own.nil _ _⟩ rfl rfl ?_
  rintro ⟨i, σ, x⟩ ⟨hi, hx⟩
  dsimp only at hi hx ⊢
  have hh1 : hol1 l.length = max 1 ((l.length + 6) / 7) := rfl
  repeat' (first
    | ((conv => whnf) <;> (first
    | (with_reducible refine lenR_sl ?_)
    ))
    )
  all_goals (conv => whnf)
  all_goals (try dsimp only)
  refine call_one (above_ok l.length (by omega)) (.cons (.same (by rw [hn]; rfl)) .nil) rfl fun σ1 hg1 => ?_
  replace hx := hx.keepN hg1
  by_cases hlt : i < hol1 l.length
  · have hcl := chk_length (prL l) i
    rw [hpn] at hcl
    repeat' (first
      | ((with_reducible refine Side.intro ?_) <;> (first
      | exact Nat.le_of_ble_eq_true rfl
      | exact rfl
      ))
      | ((conv => whnf) <;> (first
      | (with_reducible refine and_same ?_)
      | (with_reducible refine and_side ?_ ?_)
      | ((with_reducible apply Br.yes) ; (focus omega))
      | ((with_reducible apply blkAt_step) ; (focus (first
      | ((repeat (first
      | exact get_new
      )); done)
      )) ; (focus (first | rfl | assumption | omega)) ; (focus (first | rfl | assumption)) ; (try dsimp only))
      ))
      )
    all_goals (conv => whnf)
    all_goals (try dsimp only)
    refine loop_at (α := Nat × AH × AV) (fun a => [(6, .int .i64 (((7 * i + a.1 : Nat)) : Int))]) (fun a => a.2.1) (fun a => a.1 ≤ (chk (prL l) i).length ∧ Gr σ1 a.2.1 none ∧ (∃ p, a.2.1[σ1.length]? = some { sz := 4, els := [[a.2.2, .int .i64 a.1, .bool true, .int .i64 0]], gen := 0, wr := true, pure := p }) ∧ Own a.2.1 1 a.2.2 (is (flatP 0 ((chk (prL l) i).take a.1))) ∧ (a.1 = 0 → a.2.2 = .nils) ∧ (∀ id, a.2.2.bid = some id → σ1.length < id)) (fun a => (chk (prL l) i).length - a.1) (0, _, .nils) ⟨Nat.zero_le _, ?_, ?_, Own.nil _ _, fun _ => rfl, fun id h => by cases h⟩ ?_ rfl ?_
    · exact Gr.setNew (Gr.newN (Gr.refl _ _) _ _ _) (Nat.le_refl _) _
    · exact ⟨_, get_set get_new⟩
    · rw [show ((7 * i + 0 : Nat) : Int) = 7 * (i : Int) from by omega]; rfl
    rintro ⟨j, σ2, w⟩ ⟨hj, hg2, ⟨p, c1⟩, hw, hw0, hwb⟩
    dsimp only at hj hg2 c1 hw hw0 hwb ⊢
    have hwl : (is (flatP 0 ((chk (prL l) i).take j))).length = 2 * j := by rw [is_length, flatP_length, List.length_take]; omega
    have hx2 := hx.keepN hg2
    have hl2 := (List.getElem?_eq_some_iff.1 c1).1
    by_cases hjt : j < (chk (prL l) i).length
    · obtain ⟨e, he1, he2⟩ := getN (l := l) (k := 7 * i + j) (by omega)
      have hbe := hb e (List.mem_of_getElem? he2)
      have hcj : (chk (prL l) i)[j]? = some (e.1, e.2.1 * 4 + e.2.2) := by rw [chk_get (by omega)]; simp [prL, he2]
      have htk : flatP 0 ((chk (prL l) i).take (j + 1)) = flatP 0 ((chk (prL l) i).take j) ++ [e.1, 4 * e.2.1 + e.2.2] := by
        rw [List.take_add_one, hcj, Option.toList_some, flatP_snoc]
        congr 2
        dsimp only
        rw [Int.add_zero, Int.mul_comm]
      have hwn : ∀ id, w.bid = some id → id ≠ σ1.length := fun id hid => by have := hwb id hid; omega
      repeat' (first
        | ((with_reducible apply Gr.side) ; (repeat (first | exact Gr.refl _ _ | assumption | with_reducible refine Gr.trans ?_ (Gr.boxN _ _ _ _ _) | refine Gr.setNew ?_ (by first | exact Nat.le_refl _ | (simp only [newB_length, List.length_set, List.length_append, List.length_singleton]; omega) | omega) _ | refine Gr.addN ?_ _ | refine Gr.newN ?_ _ _ _ | exact Gr.trans (by assumption) (by assumption) | refine Gr.trans ?_ (by assumption) | refine Gr.trans (by assumption) ?_)) ; (first | done | fail))
        | ((with_reducible refine Side.intro ?_) <;> (first
        | omega
        | exact Nat.le_of_ble_eq_true rfl
        | exact rfl
        ))
        | ((conv => whnf) <;> (first
        | (with_reducible refine and_same ?_)
        | (with_reducible refine and_side ?_ ?_)
        | ((with_reducible apply Br.yes) ; (focus omega))
        | ((with_reducible apply blkAt_step) ; (focus (first
        | ((repeat (first
        | assumption
        | exact get_new
        )); done)
        )) ; (focus (first | rfl | assumption | omega)) ; (focus (first | rfl | assumption)) ; (try dsimp only))
        | ((with_reducible apply nthR_bk) ; (focus assumption))
        | (with_reducible refine ia_sl ?_ ?_)
        | (with_reducible refine AppC.frz ?_)
        | (with_reducible refine lenR_sl ?_)
        | (with_reducible refine rowsR_rsl ?_)
        ))
        )
      all_goals (conv => whnf)
      all_goals (try dsimp only)
      refine appendR_own (rows := is (flatP 0 ((chk (prL l) i).take j))) (Own.keepN (Gr.append _ _) hw) (by rw [hwl]; show (2 * j + 2) * 8 ≤ _; omega) ?_
      intro w' σ3 ho3 hg3 hb3
      have d1 := hg3.2 _ _ (get_old c1) (fun e => hwn _ e rfl)
      obtain ⟨o1, o2, o3⟩ := ho3.one
      have hgn : Gr σ1 σ3 none := gr_over (Gr.newN hg2 _ _ _) hg3 fun id hid => Nat.le_of_lt (hwb id hid)
      have hw' : ∀ id, w'.bid = some id → σ1.length < id := fun id hid => by
        rcases hb3 with q | q
        · exact hwb id (q ▸ hid)
        · rw [q] at hid; cases hid; simp only [newB_length]; omega
      repeat' (first
        | ((with_reducible refine Side.intro ?_) <;> (first
        | omega
        | (simp only [bs_length, List.length_append, List.length_cons, List.length_nil, List.length_take, List.length_drop, List.length_set, List.length_replicate]; omega)
        ))
        | ((conv => whnf) <;> (first
        | (with_reducible refine and_same ?_)
        | (with_reducible refine and_side ?_ ?_)
        | ((with_reducible apply blkAt_step) ; (focus (first
        | ((repeat (first
        | assumption
        )); done)
        )) ; (focus (first | rfl | assumption | omega)) ; (focus (first | rfl | assumption)) ; (try dsimp only))
        ))
        )
      all_goals (conv => whnf)
      all_goals (try dsimp only)
      rw [o1]
      repeat' (first
        | ((with_reducible refine Side.intro ?_) <;> (first
        | exact Nat.le_of_ble_eq_true rfl
        | exact rfl
        ))
        | ((conv => whnf) <;> (first
        | (with_reducible refine and_same ?_)
        | (with_reducible refine and_side ?_ ?_)
        | ((with_reducible apply Br.yes) ; (focus omega))
        | ((with_reducible apply blkAt_step) ; (focus (first
        | ((repeat (first
        | exact get_set (by assumption)
        )); done)
        )) ; (focus (first | rfl | assumption | omega)) ; (focus (first | rfl | assumption)) ; (try dsimp only))
        ))
        )
      all_goals (conv => whnf)
      all_goals (try dsimp only)
      refine ⟨(j + 1, _, w'), ?_, rfl, ⟨by omega, ?_, ⟨_, get_set (get_set d1)⟩, ?_, fun q => by omega, hw'⟩, by omega⟩
      · simp only [show ((7 * i + (j + 1) : Nat) : Int) = ((7 * i + j : Nat) : Int) + 1 from by omega]; rfl
      · exact Gr.setNew (Gr.setNew hgn (Nat.le_refl _) _) (Nat.le_refl _) _
      · dsimp only
        rw [htk, ← is_append]
        exact (ho3.keep (Gr.set _ _ _) (.inr fun e => by have := hw' _ e.symm; omega)).keep (Gr.set _ _ _) (.inr fun e => by have := hw' _ e.symm; omega)
    · have hjc : j = (chk (prL l) i).length := by omega
      have hct : (chk (prL l) i).take j = chk (prL l) i := List.take_of_length_le (by omega)
      rw [hct] at hw hwl
      rcases Nat.eq_zero_or_pos j with hj0 | hj0
      · obtain rfl := hw0 hj0
        have hcn : (chk (prL l) i).length = 0 := by omega
        have hrn : rnV true (prL l) i = [.nils, .int .i64 (j : Nat), .bool true, .int .i64 0] := by
          rw [rnV, rwV, if_pos hcn, ← hjc, List.getElem?_eq_none (by omega)]
          rfl
        repeat' (first
          | ((with_reducible refine Side.intro ?_) <;> (first
          | omega
          | exact Nat.le_of_ble_eq_true rfl
          | exact rfl
          ))
          | ((conv => whnf) <;> (first
          | (with_reducible refine and_same ?_)
          | (with_reducible refine and_side ?_ ?_)
          | ((with_reducible apply Br.no) ; (focus omega))
          | ((with_reducible apply blkAt_step) ; (focus (first
          | ((repeat (first
          | assumption
          | exact get_new
          )); done)
          )) ; (focus (first | rfl | assumption | omega)) ; (focus (first | rfl | assumption)) ; (try dsimp only))
          | (with_reducible refine AppC.frz ?_)
          | (with_reducible refine lenR_sl ?_)
          | (with_reducible refine rowsR_rsl ?_)
          ))
          )
        all_goals (conv => whnf)
        all_goals (try dsimp only)
        refine appendR_own (rows := rnK true (prL l) i) (Own.keepN (Gr.append _ _) hx2) (by rw [rnK_length]; show (i + 1) * 48 ≤ _; omega) ?_
        intro x' σ3 ho3 hg3 hb3
        repeat' (first
          | ((conv => whnf) <;> (first
          | (with_reducible refine and_same ?_)
          | ((with_reducible apply Br.yes) ; (focus omega))
          ))
          )
        all_goals (conv => whnf)
        all_goals (try dsimp only)
        all_goals exact ⟨(i + 1, σ3, x'), rfl, rfl, ⟨by omega, by rw [rnK_succ, hrn]; exact ho3⟩, by omega⟩
      · obtain ⟨idw, gw, spw, rfl, hbw⟩ := hw.ne (by intro e; rw [e] at hwl; simp at hwl; omega)
        obtain ⟨e, he1, he2⟩ := getN (l := l) (k := 7 * i) (by omega)
        have hcj : (chk (prL l) i)[0]? = some (e.1, e.2.1 * 4 + e.2.2) := by rw [chk_get (by omega)]; simp [prL, he2]
        have hf0 : (flatP 0 (chk (prL l) i))[0]? = some e.1 := by
          cases hc : chk (prL l) i with
          | nil => rw [hc] at hcj; cases hcj
          | cons a r => rw [hc] at hcj; cases hcj; rfl
        have hidw : σ1.length < idw := hwb _ rfl
        have hcn : ¬ (chk (prL l) i).length = 0 := by omega
        have hrn : rnV true (prL l) i = [.sl 1 (is (flatP 0 (chk (prL l) i))) true, .int .i64 (j : Nat), .bool true, .int .i64 e.1] := by
          rw [rnV, rwV, if_neg hcn, ← hjc]
          congr 4
          simp [prL, show l[7 * i]? = some e from he2]
        repeat' (first
          | ((with_reducible refine Side.intro ?_) <;> (first
          | omega
          | exact Nat.le_of_ble_eq_true rfl
          | (simp only [bs_length, List.length_append, List.length_cons, List.length_nil, List.length_take, List.length_drop, List.length_set, List.length_replicate]; omega)
          | exact rfl
          ))
          | ((conv => whnf) <;> (first
          | (with_reducible refine and_same ?_)
          | (with_reducible refine and_side ?_ ?_)
          | ((with_reducible apply Br.yes) ; (focus omega))
          | ((with_reducible apply Br.no) ; (focus omega))
          | (with_reducible refine Br.mk (fun _ => ?_) (fun _ => ?_))
          | ((with_reducible apply blkAt_step) ; (focus (first
          | ((repeat (first
          | assumption
          | exact get_new
          | exact get_set (by assumption)
          | apply get_old
          | (apply get_set_ne; (focus (first | omega | (simp only [newB_length, List.length_set, List.length_append, List.length_singleton, List.length_nil]; omega))))
          )); done)
          )) ; (focus (first | rfl | assumption | omega)) ; (focus (first | rfl | assumption)) ; (try dsimp only))
          | ((with_reducible apply nthR_is0) ; (focus assumption))
          | ((with_reducible apply ia_own) ; (focus assumption))
          | (with_reducible refine AppC.frz ?_)
          | (with_reducible refine nthR_z ?_)
          | (with_reducible refine lenR_sl ?_)
          | (with_reducible refine rowsR_rsl ?_)
          | (with_reducible intro _)
          ))
          )
        all_goals (conv => whnf)
        all_goals (try dsimp only)
        all_goals refine appendR_own (rows := rnK true (prL l) i) (Own.keepN (Gr.setNew (Gr.newN (Gr.setNew hg2 (Nat.le_refl _) _) _ _ _) (Nat.le_of_lt hidw) _) hx) (by rw [rnK_length]; show (i + 1) * 48 ≤ _; omega) ?_
        all_goals intro x' σ3 ho3 hg3 hb3
        all_goals have hrw : ((is (flatP 0 (chk (prL l) i)) ++ spw).drop 0).take (is (flatP 0 (chk (prL l) i))).length = is (flatP 0 (chk (prL l) i)) := by rw [List.drop_zero, List.take_left' rfl]
        all_goals rw [hrw] at ho3
        · repeat' (first
            | ((conv => whnf) <;> (first
            | (with_reducible refine and_same ?_)
            | ((with_reducible apply Br.yes) ; (focus omega))
            ))
            )
          all_goals (conv => whnf)
          all_goals (try dsimp only)
          exact ⟨(i + 1, σ3, x'), rfl, rfl, ⟨by omega, by rw [rnK_succ, hrn]; exact ho3⟩, by omega⟩
        · repeat' (first
            | ((conv => whnf) <;> (first
            | (with_reducible refine and_same ?_)
            | ((with_reducible apply Br.yes) ; (focus omega))
            ))
            )
          all_goals (conv => whnf)
          all_goals (try dsimp only)
          exact ⟨(i + 1, σ3, x'), rfl, rfl, ⟨by omega, by rw [rnK_succ, hrn]; exact ho3⟩, by omega⟩
  · repeat' (first
      | ((conv => whnf) <;> (first
      | (with_reducible refine and_same ?_)
      | ((with_reducible apply Br.no) ; (focus omega))
      ))
      )
    all_goals (conv => whnf)
    all_goals (try dsimp only)
    have e : i = hol1 (prL l).length := by rw [hpn]; omega
    subst e
    exact outNR_own hx (fresh_rn _ _ _) rfl
end Go.Proofs.Ythalikgchafjiaa

namespace Go.Proofs.Ythalikgchafjiaa
open Go Go.Proofs.Ythalikgchafjiaa.V
set_option maxRecDepth 20000
attribute [local irreducible] CallS AOK AOKn ALoop Side Ref.ok
/-! The document's levels. -/
def rvD (L : List Lv) : List (List (List AV)) := L.map fun q => rnR q.1 q.2
def rvV (L : List Lv) : List (List AV) := (rvD L).map fun d => [.sl 4 d true]
theorem fresh_rvV (L : List Lv) : FreshA (.sl 1 (rvV L) true) := by
  refine FreshA.sl _ _ fun x hx => ?_
  simp only [rvV, rvD, List.map_map, List.mem_flatten, List.mem_map] at hx
  obtain ⟨r, ⟨p, _, rfl⟩, hx⟩ := hx
  simp only [Function.comp_apply, List.mem_singleton] at hx
  subst hx
  exact fresh_rn _ _ _
theorem rnR_ne (leaf : Bool) (ps : List (Int × Int)) : rnR leaf ps ≠ [] := by
  intro e
  have := rnR_length leaf ps
  rw [e] at this
  have h2 := hol1_pos ps.length
  simp only [List.length_nil] at this
  omega
theorem upP_get {ps : List (Int × Int)} {k : Nat} (h : k < hol1 ps.length) : (upP ps)[k]? = some ((ps[7 * k]?.getD (0, 0)).1, (k : Int)) := by
  simp only [upP, upK, List.getElem?_map]
  rw [List.getElem?_range h]
  rfl
theorem rnR_row {leaf : Bool} {ps : List (Int × Int)} {j : Int} {k : Nat} (hj : j.toNat = k) (h : k < hol1 ps.length) : ∃ a b c, (rnR leaf ps)[j.toNat]? = some [a, b, c, .int .i64 (((upP ps)[k]?.getD (0, 0)).1)] := by
  refine ⟨rwV (chk ps k), .int .i64 ((chk ps k).length : Nat), .bool leaf, ?_⟩
  rw [hj, rnR_get h, upP_get h]
  rfl
theorem new_app {n m : Nat} {x x' : AV} (h : ∀ id, x.bid = some id → n ≤ id) (hb : x'.bid = x.bid ∨ x'.bid = some m) (hl : n ≤ m) : ∀ id, x'.bid = some id → n ≤ id := fun id hid => by
  rcases hb with q | q
  · exact h id (q ▸ hid)
  · rw [q] at hid; cases hid; exact hl
attribute [local irreducible] chk rnR upP
theorem RLevels_ok (l : List (Int × Int × Int)) (hl : l.length ≤ 64) (hb : ∀ e, e ∈ l → 0 ≤ e.2.1 ∧ e.2.1 ≤ 64 ∧ 0 ≤ e.2.2 ∧ e.2.2 ≤ 3) : AOKn Try.prog F.joistref14_levels [.sl 3 (bk l) false] fun y => y = .sl 1 (rvV (wrR l)) true := by
  have hn := bk_length l
  have hpn : (prL l).length = l.length := by simp [prL]
  refine AOKn.of_callS (CallS.frzPost (call_of_body mixed fc_joistref14_levels_ok (by simp [fc_joistref14_levels]) ?_))
  skip
  all_goals (conv => whnf)
  all_goals (try dsimp only)
  refine call_sl (leaves_ok l hl hb) (.cons (Looks.bk _ _ _) .nil) fun σ1 a hg ho hna => ?_
  obtain ⟨ida, ga, spa, rfl, hba⟩ := ho.ne (rnR_ne _ _)
  rw [rnR_length] at ho ⊢
  repeat' (first
    | ((with_reducible refine Side.intro ?_) <;> (first
    | omega
    | exact Nat.le_of_ble_eq_true rfl
    | exact rfl
    ))
    | ((conv => whnf) <;> (first
    | (with_reducible refine and_side ?_ ?_)
    ))
    )
  all_goals (conv => whnf)
  all_goals (try dsimp only)
  refine loop_at (α := List Lv × (Bool × List (Int × Int)) × AH × AV) (fun a => [(3, a.2.2.2)]) (fun a => a.2.2.1) (fun a => a.1.reverse ++ lvP a.2.1.1 a.2.1.2 = lvP true (prL l) ∧ a.2.1.2.length ≤ 64 ∧ a.1.length ≤ 64 - a.2.1.2.length ∧ RefB a.2.2.1 a.2.2.2 ∧ ∃ xs, NestS a.2.2.1 a.2.2.2 xs ∧ SepR a.2.2.1 4 xs (rvD (a.2.1 :: a.1))) (fun a => a.2.1.2.length) ([], (true, prL l), _, _) ⟨rfl, by dsimp only; omega, by dsimp only [List.length_nil]; omega, ?_, [.rsl ida ga 0 (hol1 (prL l).length) none], ?_, ?_⟩ rfl rfl ?_
  · intro id b h1 h2
    cases h1
    dsimp only at h2
    rw [get_new] at h2
    cases h2
    exact ⟨rfl, rfl, rfl⟩
  · refine .inr ⟨σ1.length, 0, _, rfl, get_new, fun r hr z hz => ?_⟩
    simp only [List.map_cons, List.map_nil, List.mem_singleton] at hr
    subst hr
    simp only [List.mem_singleton] at hz
    subst hz
    have := (List.getElem?_eq_some_iff.1 hba).1
    intro q
    cases q
    omega
  · refine SepR.snoc (xs := []) (D := []) (SepR.nil _ _) ?_ (by simp)
    exact Own.keepN (Gr.append _ _) ho
  rintro ⟨rest, ⟨leaf, ps⟩, σ2, x2⟩ ⟨hP, hps, hpv, hR, xs, hN, hS⟩
  dsimp only at hP hps hpv hR hN hS ⊢
  have hxl : xs.length = rest.length + 1 := by rw [hS.len]; simp [rvD]
  obtain ⟨y, hy⟩ : ∃ y, xs[(0 : Int).toNat]? = some y := ⟨_, List.getElem?_eq_getElem (by show 0 < xs.length; omega)⟩
  have hyo : Own σ2 4 y (rnR leaf ps) := hS.own _ y _ hy rfl
  have hml : (xs.map fun x => [x]).length = xs.length := List.length_map _
  have hyl := rnR_length leaf ps
  have hhp := hol1_pos ps.length
  by_cases hone : hol1 ps.length = 1
  · repeat' (first
      | ((with_reducible refine Side.intro ?_) <;> (first
      | omega
      ))
      | ((conv => whnf) <;> (first
      | (with_reducible refine and_same ?_)
      | ((with_reducible apply Br.no) ; (focus omega))
      | ((with_reducible apply blkAt_step) ; (focus (first
      | ((repeat (first
      | assumption
      )); done)
      )) ; (focus (first | rfl | assumption | omega)) ; (focus (first | rfl | assumption)) ; (try dsimp only))
      | ((with_reducible apply nest_at0) ; (focus assumption))
      | ((with_reducible apply lenR_own) ; (focus assumption))
      | ((with_reducible apply NestR.ia) ; (focus assumption))
      | (with_reducible refine nthR_z ?_)
      | (with_reducible intro _)
      ))
      )
    all_goals (conv => whnf)
    all_goals (try dsimp only)
    rw [lvP_one (by omega)] at hP
    have hD : (leaf, ps) :: rest = wrR l := by rw [wrR, ← hP]; simp
    rcases hN with ⟨rfl, hz⟩ | ⟨id, gen, p, rfl, hbk, hno⟩
    · have := congrArg List.length hz
      rw [hml, List.length_nil] at this
      omega
    have hpf := (hR id _ rfl hbk).1
    dsimp only at hpf
    subst hpf
    obtain ⟨τ1, f1, f2, f3⟩ := hS.frz fun d hd => by
      simp only [rvD, List.mem_map] at hd
      obtain ⟨q, _, rfl⟩ := hd
      exact rnR_ne _ _
    have hb1 : τ1[id]? = _ := (f3 id fun z hz => hno [z] (List.mem_map.2 ⟨z, hz, rfl⟩) z (by simp)).trans hbk
    refine ⟨id, _, _, τ1, hbk, rfl, rfl, f1, hb1, ?_⟩
    rw [hD]
    have hll : (xs.map fun x => [x]).length = (rvV (wrR l)).length := by rw [hml, hS.len, hD]; simp [rvV]
    rw [hll]
    exact outNR_rows (get_set hb1) rfl (fresh_rvV _) rfl
  · have hul := upP_length ps
    have hlt1 := hol1_lt (n := ps.length) (by omega)
    have hh2 : hol1 (hol1 ps.length) = max 1 ((hol1 ps.length + 6) / 7) := rfl
    repeat' (first
      | ((with_reducible refine Side.intro ?_) <;> (first
      | omega
      ))
      | ((conv => whnf) <;> (first
      | (with_reducible refine and_same ?_)
      | ((with_reducible apply Br.yes) ; (focus omega))
      | ((with_reducible apply blkAt_step) ; (focus (first
      | ((repeat (first
      | assumption
      )); done)
      )) ; (focus (first | rfl | assumption | omega)) ; (focus (first | rfl | assumption)) ; (try dsimp only))
      | ((with_reducible apply nest_at0) ; (focus assumption))
      | ((with_reducible apply lenR_own) ; (focus assumption))
      | ((with_reducible apply NestR.ia) ; (focus assumption))
      | (with_reducible refine nthR_z ?_)
      | (with_reducible intro _)
      ))
      )
    all_goals (conv => whnf)
    all_goals (try dsimp only)
    refine loop_at (α := Nat × AH × AV) (fun a => [(5, a.2.2), (6, .int .i64 a.1)]) (fun a => a.2.1) (fun a => a.1 ≤ hol1 (upP ps).length ∧ Own a.2.1 4 a.2.2 (rnK false (upP ps) a.1) ∧ Gr σ2 a.2.1 none ∧ (∀ id, a.2.2.bid = some id → σ2.length ≤ id)) (fun a => hol1 (upP ps).length - a.1) (0, σ2, .nils) ⟨by omega, Own.nil _ _, Gr.refl _ _, (fun id q => by cases q)⟩ rfl rfl ?_
    rintro ⟨i, σ3, u⟩ ⟨hi, huo, hg3, hnw⟩
    dsimp only at hi huo hg3 hnw ⊢
    rw [hul] at hi ⊢
    have hyo3 := hyo.keepN hg3
    repeat' (first
      | ((conv => whnf) <;> (first
      | ((with_reducible apply lenR_own) ; (focus assumption))
      ))
      )
    all_goals (conv => whnf)
    all_goals (try dsimp only)
    refine call_one (above_ok (hol1 ps.length) (by omega)) (.cons (.same (by rw [hyl]; rfl)) .nil) rfl fun σ4 hg4 => ?_
    replace huo := huo.keepN hg4
    replace hyo3 := hyo3.keepN hg4
    have hg34 := Gr.trans hg3 hg4
    by_cases hlt : i < hol1 (hol1 ps.length)
    · have hcl := chk_length (upP ps) i
      rw [hul] at hcl
      obtain ⟨ra, rb, rc, hrow⟩ := rnR_row (leaf := leaf) (ps := ps) (j := 7 * (i : Int)) (k := 7 * i) (by omega) (by omega)
      repeat' (first
        | ((with_reducible refine Side.intro ?_) <;> (first
        | omega
        | exact Nat.le_of_ble_eq_true rfl
        | exact rfl
        ))
        | ((conv => whnf) <;> (first
        | (with_reducible refine and_same ?_)
        | (with_reducible refine and_side ?_ ?_)
        | ((with_reducible apply Br.yes) ; (focus omega))
        | ((with_reducible apply blkAt_step) ; (focus (first
        | ((repeat (first
        | assumption
        | exact get_new
        )); done)
        )) ; (focus (first | rfl | assumption | omega)) ; (focus (first | rfl | assumption)) ; (try dsimp only))
        | ((with_reducible apply nthR_at) ; (focus assumption))
        | ((with_reducible apply ia_own) ; (focus assumption))
        | (with_reducible intro _)
        ))
        )
      all_goals (conv => whnf)
      all_goals (try dsimp only)
      refine loop_at (α := Nat × AH × AV) (fun a => [(8, .int .i64 (((7 * i + a.1 : Nat)) : Int))]) (fun a => a.2.1) (fun a => a.1 ≤ (chk (upP ps) i).length ∧ Gr σ4 a.2.1 none ∧ (∃ p, a.2.1[σ4.length]? = some { sz := 4, els := [[a.2.2, .int .i64 a.1, .bool false, .int .i64 (((upP ps)[7 * i]?.getD (0, 0)).1)]], gen := 0, wr := true, pure := p }) ∧ Own a.2.1 1 a.2.2 (is (flatP 0 ((chk (upP ps) i).take a.1))) ∧ (∀ id, a.2.2.bid = some id → σ4.length < id)) (fun a => (chk (upP ps) i).length - a.1) (0, _, .nils) ⟨Nat.zero_le _, ?_, ?_, Own.nil _ _, fun id h => by cases h⟩ ?_ rfl ?_
      · exact Gr.setNew (Gr.newN (Gr.refl _ _) _ _ _) (Nat.le_refl _) _
      · exact ⟨_, get_set get_new⟩
      · rw [show ((7 * i + 0 : Nat) : Int) = 7 * (i : Int) from by omega]; rfl
      rintro ⟨j, σ5, w⟩ ⟨hj, hg5, ⟨p, c1⟩, hw, hwb⟩
      dsimp only at hj hg5 c1 hw hwb ⊢
      have hwl : (is (flatP 0 ((chk (upP ps) i).take j))).length = 2 * j := by rw [is_length, flatP_length, List.length_take]; omega
      have hyo5 := hyo3.keepN hg5
      have hl5 := (List.getElem?_eq_some_iff.1 c1).1
      by_cases hjt : j < (chk (upP ps) i).length
      · obtain ⟨ra2, rb2, rc2, hrow2⟩ := rnR_row (leaf := leaf) (ps := ps) (j := ((7 * i + j : Nat) : Int)) (k := 7 * i + j) (by omega) (by omega)
        have hp2 := upP_get (ps := ps) (k := 7 * i + j) (by omega)
        have hcj : (chk (upP ps) i)[j]? = some ((ps[7 * (7 * i + j)]?.getD (0, 0)).1, ((7 * i + j : Nat) : Int)) := by rw [chk_get (by omega), hp2]
        have htk : flatP 0 ((chk (upP ps) i).take (j + 1)) = flatP 0 ((chk (upP ps) i).take j) ++ [(ps[7 * (7 * i + j)]?.getD (0, 0)).1, ((7 * i + j : Nat) : Int)] := by
          rw [List.take_add_one, hcj, Option.toList_some, flatP_snoc]
          simp
        rw [hp2, Option.getD_some] at hrow2
        dsimp only at hrow2
        have hwn : ∀ id, w.bid = some id → id ≠ σ4.length := fun id hid => by have := hwb id hid; omega
        repeat' (first
          | ((with_reducible apply Gr.side) ; (repeat (first | exact Gr.refl _ _ | assumption | with_reducible refine Gr.trans ?_ (Gr.boxN _ _ _ _ _) | refine Gr.setNew ?_ (by first | exact Nat.le_refl _ | (simp only [newB_length, List.length_set, List.length_append, List.length_singleton]; omega) | omega) _ | refine Gr.addN ?_ _ | refine Gr.newN ?_ _ _ _ | exact Gr.trans (by assumption) (by assumption) | refine Gr.trans ?_ (by assumption) | refine Gr.trans (by assumption) ?_)) ; (first | done | fail))
          | ((with_reducible refine Side.intro ?_) <;> (first
          | omega
          | exact Nat.le_of_ble_eq_true rfl
          | exact rfl
          ))
          | ((conv => whnf) <;> (first
          | (with_reducible refine and_same ?_)
          | (with_reducible refine and_side ?_ ?_)
          | ((with_reducible apply Br.yes) ; (focus omega))
          | ((with_reducible apply blkAt_step) ; (focus (first
          | ((repeat (first
          | assumption
          | exact get_new
          )); done)
          )) ; (focus (first | rfl | assumption | omega)) ; (focus (first | rfl | assumption)) ; (try dsimp only))
          | ((with_reducible apply nthR_at) ; (focus assumption))
          | ((with_reducible apply lenR_own) ; (focus assumption))
          | ((with_reducible apply ia_own) ; (focus assumption))
          | (with_reducible refine AppC.frz ?_)
          | (with_reducible refine rowsR_rsl ?_)
          | (with_reducible intro _)
          ))
          )
        all_goals (conv => whnf)
        all_goals (try dsimp only)
        refine appendR_own (rows := is (flatP 0 ((chk (upP ps) i).take j))) (Own.keepN (Gr.append _ _) hw) (by rw [hwl]; show (2 * j + 2) * 8 ≤ _; omega) ?_
        intro w' σ6 ho3 hg6 hb3
        have d1 := hg6.2 _ _ (get_old c1) (fun e => hwn _ e rfl)
        obtain ⟨o1, o2, o3⟩ := ho3.one
        have hgn : Gr σ4 σ6 none := gr_over (Gr.newN hg5 _ _ _) hg6 fun id hid => Nat.le_of_lt (hwb id hid)
        have hw' : ∀ id, w'.bid = some id → σ4.length < id := fun id hid => by
          rcases hb3 with q | q
          · exact hwb id (q ▸ hid)
          · rw [q] at hid; cases hid; simp only [newB_length]; omega
        repeat' (first
          | ((with_reducible refine Side.intro ?_) <;> (first
          | omega
          | (simp only [bs_length, List.length_append, List.length_cons, List.length_nil, List.length_take, List.length_drop, List.length_set, List.length_replicate]; omega)
          ))
          | ((conv => whnf) <;> (first
          | (with_reducible refine and_same ?_)
          | (with_reducible refine and_side ?_ ?_)
          | ((with_reducible apply blkAt_step) ; (focus (first
          | ((repeat (first
          | assumption
          )); done)
          )) ; (focus (first | rfl | assumption | omega)) ; (focus (first | rfl | assumption)) ; (try dsimp only))
          ))
          )
        all_goals (conv => whnf)
        all_goals (try dsimp only)
        rw [o1]
        repeat' (first
          | ((with_reducible refine Side.intro ?_) <;> (first
          | exact Nat.le_of_ble_eq_true rfl
          | exact rfl
          ))
          | ((conv => whnf) <;> (first
          | (with_reducible refine and_same ?_)
          | (with_reducible refine and_side ?_ ?_)
          | ((with_reducible apply Br.yes) ; (focus omega))
          | ((with_reducible apply blkAt_step) ; (focus (first
          | ((repeat (first
          | exact get_set (by assumption)
          )); done)
          )) ; (focus (first | rfl | assumption | omega)) ; (focus (first | rfl | assumption)) ; (try dsimp only))
          ))
          )
        all_goals (conv => whnf)
        all_goals (try dsimp only)
        refine ⟨(j + 1, _, w'), ?_, rfl, ⟨by omega, ?_, ⟨_, get_set (get_set d1)⟩, ?_, hw'⟩, by omega⟩
        · simp only [show ((7 * i + (j + 1) : Nat) : Int) = ((7 * i + j : Nat) : Int) + 1 from by omega]; rfl
        · exact Gr.setNew (Gr.setNew hgn (Nat.le_refl _) _) (Nat.le_refl _) _
        · dsimp only
          rw [htk, ← is_append]
          exact (ho3.keep (Gr.set _ _ _) (.inr fun e => by have := hw' _ e.symm; omega)).keep (Gr.set _ _ _) (.inr fun e => by have := hw' _ e.symm; omega)
      · have hjc : j = (chk (upP ps) i).length := by omega
        have hct : (chk (upP ps) i).take j = chk (upP ps) i := List.take_of_length_le (by omega)
        rw [hct] at hw hwl
        obtain ⟨idw, gw, spw, rfl, hbw⟩ := hw.ne (by intro e; rw [e] at hwl; simp at hwl; omega)
        have hidw : σ4.length < idw := hwb _ rfl
        have hcn : ¬ (chk (upP ps) i).length = 0 := by omega
        have hrn : rnV false (upP ps) i = [.sl 1 (is (flatP 0 (chk (upP ps) i))) true, .int .i64 (j : Nat), .bool false, .int .i64 (((upP ps)[7 * i]?.getD (0, 0)).1)] := by
          rw [rnV, rwV, if_neg hcn, ← hjc]
        have hrw : ((is (flatP 0 (chk (upP ps) i)) ++ spw).drop 0).take (is (flatP 0 (chk (upP ps) i))).length = is (flatP 0 (chk (upP ps) i)) := by rw [List.drop_zero, List.take_left' rfl]
        repeat' (first
          | ((with_reducible refine Side.intro ?_) <;> (first
          | omega
          | exact Nat.le_of_ble_eq_true rfl
          | (simp only [bs_length, List.length_append, List.length_cons, List.length_nil, List.length_take, List.length_drop, List.length_set, List.length_replicate]; omega)
          | exact rfl
          ))
          | ((conv => whnf) <;> (first
          | (with_reducible refine and_same ?_)
          | (with_reducible refine and_side ?_ ?_)
          | ((with_reducible apply Br.yes) ; (focus omega))
          | ((with_reducible apply Br.no) ; (focus omega))
          | (with_reducible refine Br.mk (fun _ => ?_) (fun _ => ?_))
          | ((with_reducible apply blkAt_step) ; (focus (first
          | ((repeat (first
          | assumption
          | exact get_new
          | apply get_old
          )); done)
          )) ; (focus (first | rfl | assumption | omega)) ; (focus (first | rfl | assumption)) ; (try dsimp only))
          | ((with_reducible apply lenR_own) ; (focus assumption))
          | (with_reducible refine AppC.frz ?_)
          | (with_reducible refine rowsR_rsl ?_)
          ))
          )
        all_goals (conv => whnf)
        all_goals (try dsimp only)
        all_goals refine appendR_own (rows := rnK false (upP ps) i) (Own.keepN (Gr.setNew (Gr.newN hg5 _ _ _) (Nat.le_of_lt hidw) _) huo) (by rw [rnK_length]; show (i + 1) * 48 ≤ _; omega) ?_
        all_goals intro u' σ6 ho3 hg6 hb3
        all_goals rw [hrw] at ho3
        all_goals have hl45 := hg5.1
        all_goals have hl24 := hg34.1
        all_goals have hgr : Gr σ2 σ6 none := gr_over (Gr.trans hg34 (Gr.setNew (Gr.newN hg5 _ _ _) (Nat.le_of_lt hidw) _)) hg6 hnw
        all_goals have hnw' : ∀ id, u'.bid = some id → σ2.length ≤ id := new_app hnw hb3 (by simp only [newB_length, List.length_set]; omega)
        · repeat' (first
            | ((conv => whnf) <;> (first
            | (with_reducible refine and_same ?_)
            | ((with_reducible apply Br.yes) ; (focus omega))
            ))
            )
          all_goals (conv => whnf)
          all_goals (try dsimp only)
          exact ⟨(i + 1, σ6, u'), rfl, rfl, ⟨by omega, by rw [rnK_succ, hrn]; exact ho3, hgr, hnw'⟩, by omega⟩
        · repeat' (first
            | ((conv => whnf) <;> (first
            | (with_reducible refine and_same ?_)
            | ((with_reducible apply Br.yes) ; (focus omega))
            ))
            )
          all_goals (conv => whnf)
          all_goals (try dsimp only)
          exact ⟨(i + 1, σ6, u'), rfl, rfl, ⟨by omega, by rw [rnK_succ, hrn]; exact ho3, hgr, hnw'⟩, by omega⟩
    · have raw : UseRaw := ⟨⟩
      have hiE : i = hol1 (upP ps).length := by rw [hul]; omega
      have hru : rnK false (upP ps) i = rnR false (upP ps) := by rw [hiE]; unfold rnR; rfl
      rw [hru] at huo
      obtain ⟨idu, gu, spu, rfl, hbu⟩ := huo.ne (rnR_ne _ _)
      have hidu : σ2.length ≤ idu := hnw idu rfl
      have hlu := (List.getElem?_eq_some_iff.1 hbu).1
      have hN4 : NestS (newB σ4 1 [[.rsl idu gu 0 (rnR false (upP ps)).length none]] false) x2 xs := hN.keepN (Gr.newN hg34 _ _ _)
      repeat' (first
        | ((with_reducible refine Side.intro ?_) <;> (first
        | omega
        | exact Nat.le_of_ble_eq_true rfl
        | exact rfl
        ))
        | ((conv => whnf) <;> (first
        | (with_reducible refine and_same ?_)
        | (with_reducible refine and_side ?_ ?_)
        | ((with_reducible apply Br.no) ; (focus omega))
        | ((with_reducible apply NestR.rowsW) ; (focus assumption))
        | ((with_reducible apply AppC.raw) ; (focus assumption))
        | (with_reducible intro _)
        ))
        )
      all_goals (conv => whnf)
      all_goals (try dsimp only)
      refine appI_rsl get_new rfl rfl rfl (Nat.le_refl _) (by rw [hml]; omega) ?_
      skip
      all_goals (conv => whnf)
      all_goals (try dsimp only)
      have hgr : Gr σ2 (newB σ4 1 [[.rsl idu gu 0 (rnR false (upP ps)).length none]] false) none := Gr.newN hg34 _ _ _
      have hlN := hg34.1
      refine ⟨((leaf, ps) :: rest, (false, upP ps), _, _), rfl, rfl, ⟨?_, ?_, ?_, ?_, .rsl idu gu 0 (rnR false (upP ps)).length none :: xs, ?_, ?_⟩, ?_⟩
      · rw [lvP_more (by omega)] at hP
        simpa using hP
      · dsimp only; omega
      · dsimp only; rw [List.length_cons]; omega
      · intro id b h1 h2
        cases h1
        dsimp only at h2
        have h3 := (get_set (σ := newB σ4 1 [[.rsl idu gu 0 (rnR false (upP ps)).length none]] false) get_new).symm.trans h2
        cases h3
        exact ⟨rfl, rfl, rfl⟩
      · refine .inr ⟨σ4.length, 1, false, ?_, ?_, fun r hr z hz => ?_⟩
        · dsimp only
          rw [hml, List.length_map, List.length_cons, Nat.add_comm 1 xs.length]
        · dsimp only
          exact (get_set (σ := newB σ4 1 [[.rsl idu gu 0 (rnR false (upP ps)).length none]] false) get_new).trans rfl
        · rw [List.map_cons, List.mem_cons] at hr
          rcases hr with rfl | hr
          · simp only [List.mem_singleton] at hz
            subst hz
            intro q
            cases q
            omega
          · intro q
            obtain ⟨z', hz', rfl⟩ := List.mem_map.1 hr
            simp only [List.mem_singleton] at hz
            subst hz
            have := hS.lt hz' q
            omega
      · dsimp only
        refine SepR.cons ((SepR.keepN hgr hS).keep (Gr.set _ _ _) fun z hz => .inr fun q => ?_) (Own.keep (Gr.set _ _ _) (Own.keepN (Gr.append _ _) huo) (.inr fun q => ?_)) fun z hz => .inr fun q => ?_
        · have := hS.lt hz q.symm
          omega
        · cases q
          omega
        · have := hS.lt hz q
          omega
      · dsimp only; omega
end Go.Proofs.Ythalikgchafjiaa

namespace Go.Proofs.Ythalikgchafjiaa
open Go Go.Proofs.Ythalikgchafjiaa.V
set_option maxRecDepth 20000
attribute [local irreducible] CallS AOK AOKn ALoop Side Ref.ok
/-! The document's bytes. -/
theorem keep_keep (live : List Nat) : ∀ fr : Fr, Fr.keep live (Fr.keep live fr) = Fr.keep live fr
  | [] => rfl
  | (m, y) :: r => by
    by_cases h : live.contains m = true
    · simp only [Fr.keep, h, if_true, keep_keep live r]
    · simp only [Fr.keep, h, Bool.false_eq_true, if_false]
      exact keep_keep live r
/-- A loop that is entered with more in the frame than it keeps. -/
theorem loop_live {α : Type} {F : Fr → AH → KN → Prop} {live : List Nat} {fr : Fr} {σ : AH} (vs : α → List (Nat × AV)) (hp : α → AH) (I : α → Prop) (μ : α → Nat) (a : α) (h0 : I a) (hfr : Fr.keepK live fr fun fr0 => fr0 = Fr.upd fr0 (vs a)) (hσ : σ = hp a)
    (step : Fr.keepK live fr fun frl => ∀ a, I a → Fr.updK frl (vs a) fun fr1 => Fr.keepK live fr1 fun fr0 => F fr0 (hp a) fun fr' σ' => ∃ a', fr' = Fr.upd frl (vs a') ∧ σ' = hp a' ∧ I a' ∧ μ a' < μ a) : ALoop F live fr σ := by
  rw [Fr.keepK_eq] at hfr step
  subst hσ
  unfold ALoop
  refine ⟨fun n f s => (f = fr ∧ s = hp a ∧ n = μ a) ∨ ∃ b, f = Fr.upd (Fr.keep live fr) (vs b) ∧ s = hp b ∧ I b ∧ μ b ≤ μ a ∧ μ b = n, ⟨_, .inl ⟨rfl, rfl, rfl⟩⟩, ?_⟩
  have key : ∀ b, μ b ≤ μ a → (fun (fr' : Fr) (σ' : AH) => ∃ m, m < μ b ∧ ((fr' = fr ∧ σ' = hp a ∧ m = μ a) ∨ ∃ c, fr' = Fr.upd (Fr.keep live fr) (vs c) ∧ σ' = hp c ∧ I c ∧ μ c ≤ μ a ∧ μ c = m)) = fun fr' σ' => ∃ a', fr' = Fr.upd (Fr.keep live fr) (vs a') ∧ σ' = hp a' ∧ I a' ∧ μ a' < μ b := by
    intro b hb
    funext fr' σ'
    refine propext ⟨?_, ?_⟩
    · rintro ⟨m, h1, ⟨_, _, h2⟩ | ⟨c, h2, h3, h4, h5, rfl⟩⟩
      · omega
      · exact ⟨c, h2, h3, h4, h1⟩
    · rintro ⟨c, h2, h3, h4, h1⟩
      exact ⟨_, h1, .inr ⟨c, h2, h3, h4, by omega, rfl⟩⟩
  rintro n f s (⟨rfl, rfl, rfl⟩ | ⟨b, rfl, rfl, hb, hle, rfl⟩)
  · rw [key a (Nat.le_refl _), Fr.keepK_eq]
    have := step a h0
    rw [Fr.updK_eq, ← hfr, Fr.keepK_eq, keep_keep] at this
    exact this
  · rw [key b hle]
    have := step b hb
    rw [Fr.updK_eq] at this
    exact this
structure RwMark (c : List (Int × Int)) : Prop where
  of ::
theorem rw_len {σ : AH} {c : List (Int × Int)} {K : Nat → Prop} (_ : RwMark c) (hk : K (2 * c.length)) : LenW σ (rwV c) K := by
  unfold rwV
  split
  · rename_i h; rw [h] at hk; exact lenR_nils hk
  · exact lenR_sl (by rw [is_length, flatP_length]; exact hk)
theorem rw_ia {σ : AH} {c : List (Int × Int)} {n v : Int} {K : AV → Prop} (h : (flatP 0 c)[n.toNat]? = some v) (h0 : Side (0 ≤ n)) (hk : K (.vptr [.int .i64 v] 0)) : IaW σ 1 (rwV c) n K := by
  unfold rwV
  split
  · rename_i hc
    rw [List.length_eq_zero_iff.1 hc] at h
    cases h
  · exact ia_sl h0 (nthR_is1 h hk)
theorem flatP_get {sh : Int} : ∀ {c : List (Int × Int)} {j : Nat} {v : Int}, (flatP 0 c)[j]? = some v → (flatP sh c)[j]? = some (if j % 2 = 1 then v + sh else v)
  | [], j, v, h => by simp [flatP] at h
  | p :: c, 0, v, h => by
    simp only [flatP, List.flatMap_cons, List.cons_append, List.getElem?_cons_zero, Option.some.injEq] at h ⊢
    rw [h]; rfl
  | p :: c, 1, v, h => by
    have h' : p.2 = v := by simpa [flatP] using h
    subst h'
    simp [flatP]
  | p :: c, j + 2, v, h => by
    have h' : (flatP 0 c)[j]? = some v := by simpa [flatP] using h
    have := flatP_get (sh := sh) h'
    have e : (flatP sh (p :: c))[j + 2]? = (flatP sh c)[j]? := by simp [flatP]
    rw [e, this, show (j + 2) % 2 = j % 2 from by omega]
theorem ndW_eq (leaf : Bool) (sh : Int) (c : List (Int × Int)) : ndW leaf sh c = ((2 * (c.length : Int) + (if leaf then 1 else 0)) :: flatP (if leaf then 0 else sh) c) ++ List.replicate (15 - 2 * c.length) 0 := by
  rw [ndW, ndK, List.take_length]
theorem rvV_get {R : List Lv} {i : Nat} {q : Lv} (h : R[i]? = some q) : (rvV R)[i]? = some [.sl 4 (rnR q.1 q.2) true] := by
  simp [rvV, rvD, h]
theorem rvV_length (R : List Lv) : (rvV R).length = R.length := by simp [rvV, rvD]
theorem is_one (a : Int) : is [a] = [[.int .i64 a]] := rfl
attribute [local irreducible] chk rnR upP rwV rvV
theorem RWrite_ok (pages room : Int) (l : List (Int × Int × Int)) (hl : l.length ≤ 4611686018427) : AOKn Try.prog F.joistref14_Write [.int .i64 pages, .int .i64 room, .sl 3 (bk l) false] fun y => y = .tup [.sl 1 (bs (wrL pages room l)) true, .int .i64 (wrE pages room l)] := by
  have hn := bk_length l
  refine AOKn.by_steps mixed fc_joistref14_Write_ok (by simp [fc_joistref14_Write]) ?_
  skip
  all_goals (conv => whnf)
  all_goals (try dsimp only)
  refine call_one (RRight14_ok pages l hl) (.cons (Looks.int _ _ _) (.cons (Looks.bk _ _ _) .nil)) rfl fun σ1 hg1 => ?_
  cases hR : rt pages l
  · repeat' (first
      | ((with_reducible refine Side.intro ?_) <;> (first
      | (simp only [List.append_nil, List.nil_append, List.map_nil]; first | exact List.nodup_nil | exact nodup_bid1 _ | exact nodup_bid2 (by assumption))
      | ((first | refine fresh_tup ?_ | skip); (repeat (first | exact fresh_bs _ |  exact FreshA.sl _ _ FreshA_bs | exact FreshA.sl _ _ FreshA_is | exact FreshA.nils | exact FreshA.nilp | exact FreshA.int _ _ | exact FreshA.bool _ | exact FreshA.str _ | exact fresh_nil | refine fresh_cons ?_ ?_ | with_reducible refine fresh_aggR ?_ | with_reducible refine fresh_agg ?_ | with_reducible exact fresh_nilA | with_reducible refine fresh_consA ?_ ?_)); done)
      ))
      | ((conv => whnf) <;> (first
      | (with_reducible refine and_side ?_ ?_)
      | (with_reducible refine NOut.lit ?_)
      ))
      )
    all_goals (conv => whnf)
    all_goals (try dsimp only)
    have e1 : wrE pages room l = 1 := by rw [wrE, if_neg (by rw [hR]; simp)]
    rw [wrL, e1, if_neg (by decide)]
    exact ret_nilt rfl
  · obtain ⟨hp0, hp1, hl64, hbd⟩ := rt_bd hR
    obtain ⟨hq1, hq2, hq3⟩ := wrR_ok hR
    have hE : wrE pages room l = if room < ndI l.length ∨ 13 < room then 2 else 0 := by rw [wrE, if_pos hR]
    have hI : ndI l.length = (ndN l.length : Nat) := by rw [ndI, if_neg (by omega)]; rfl
    repeat' (first
      | ((conv => whnf) <;> (first
      | (with_reducible refine lenR_sl ?_)
      ))
      )
    all_goals (conv => whnf)
    all_goals (try dsimp only)
    refine call_one (RNodes_ok _ (by omega)) (.cons (Looks.int _ _ _) .nil) rfl fun σ2 hg2 => ?_
    rw [hn]
    by_cases hr1 : room < ndI l.length
    · repeat' (first
        | ((with_reducible refine Side.intro ?_) <;> (first
        | (simp only [List.append_nil, List.nil_append, List.map_nil]; first | exact List.nodup_nil | exact nodup_bid1 _ | exact nodup_bid2 (by assumption))
        | ((first | refine fresh_tup ?_ | skip); (repeat (first | exact fresh_bs _ |  exact FreshA.sl _ _ FreshA_bs | exact FreshA.sl _ _ FreshA_is | exact FreshA.nils | exact FreshA.nilp | exact FreshA.int _ _ | exact FreshA.bool _ | exact FreshA.str _ | exact fresh_nil | refine fresh_cons ?_ ?_ | with_reducible refine fresh_aggR ?_ | with_reducible refine fresh_agg ?_ | with_reducible exact fresh_nilA | with_reducible refine fresh_consA ?_ ?_)); done)
        ))
        | ((conv => whnf) <;> (first
        | (with_reducible refine and_same ?_)
        | (with_reducible refine and_side ?_ ?_)
        | ((with_reducible apply Br.yes) ; (focus omega))
        | (with_reducible refine NOut.lit ?_)
        ))
        )
      all_goals (conv => whnf)
      all_goals (try dsimp only)
      have e1 : wrE pages room l = 2 := by rw [hE, if_pos (.inl hr1)]
      rw [wrL, e1, if_neg (by decide)]
      exact ret_nilt rfl
    · repeat' (first
        | ((conv => whnf) <;> (first
        | (with_reducible refine and_same ?_)
        | ((with_reducible apply Br.no) ; (focus omega))
        ))
        )
      all_goals (conv => whnf)
      all_goals (try dsimp only)
      refine call_one (RNodes_ok _ (by omega)) (.cons (Looks.int _ _ _) .nil) rfl fun σ3 hg3 => ?_
      rw [ndN_64]
      by_cases hr2 : 13 < room
      · repeat' (first
          | ((with_reducible refine Side.intro ?_) <;> (first
          | (simp only [List.append_nil, List.nil_append, List.map_nil]; first | exact List.nodup_nil | exact nodup_bid1 _ | exact nodup_bid2 (by assumption))
          | ((first | refine fresh_tup ?_ | skip); (repeat (first | exact fresh_bs _ |  exact FreshA.sl _ _ FreshA_bs | exact FreshA.sl _ _ FreshA_is | exact FreshA.nils | exact FreshA.nilp | exact FreshA.int _ _ | exact FreshA.bool _ | exact FreshA.str _ | exact fresh_nil | refine fresh_cons ?_ ?_ | with_reducible refine fresh_aggR ?_ | with_reducible refine fresh_agg ?_ | with_reducible exact fresh_nilA | with_reducible refine fresh_consA ?_ ?_)); done)
          ))
          | ((conv => whnf) <;> (first
          | (with_reducible refine and_same ?_)
          | (with_reducible refine and_side ?_ ?_)
          | ((with_reducible apply Br.yes) ; (focus omega))
          | (with_reducible refine NOut.lit ?_)
          ))
          )
        all_goals (conv => whnf)
        all_goals (try dsimp only)
        have e1 : wrE pages room l = 2 := by rw [hE, if_pos (.inr hr2)]
        rw [wrL, e1, if_neg (by decide)]
        exact ret_nilt rfl
      · have e1 : wrE pages room l = 0 := by rw [hE, if_neg (by omega)]
        rw [wrL, e1, if_pos rfl]
        repeat' (first
          | ((conv => whnf) <;> (first
          | (with_reducible refine and_same ?_)
          | ((with_reducible apply Br.no) ; (focus omega))
          ))
          )
        all_goals (conv => whnf)
        all_goals (try dsimp only)
        refine call_sl (RLevels_ok l hl64 fun e he => by have := hbd e he; omega) (.cons (Looks.bk _ _ _) .nil) fun σ4 y hg4 hy hny => ?_
        have hWl0 := wrG_len (L := wrR l) (b := 0) hq1 (by omega)
        rw [hq2] at hWl0
        have hRl : (wrR l).length ≤ 65 := by
          have := (lvP_len _ _ _ (rfl : lvP true (prL l) = _)).1
          rw [wrR, List.length_reverse]
          rw [show (prL l).length = l.length from by simp [prL]] at this
          omega
        have hvl := rvV_length (wrR l)
        have hB : wrB room l = wrG (wrR l) 0 ++ List.replicate (128 * room.toNat - (wrG (wrR l) 0).length) 0 := rfl
        rw [hB]
        generalize wrR l = R at *
        skip
        all_goals (conv => whnf)
        all_goals (try dsimp only)
        refine loop_at (α := Nat × AH × AV) (fun a => [(10, a.2.2), (11, .int .i64 (wrN (R.take a.1) : Nat)), (12, .int .i64 a.1)]) (fun a => a.2.1) (fun a => a.1 ≤ R.length ∧ Own a.2.1 1 y (rvV R) ∧ Own a.2.1 1 a.2.2 (bs (wrG (R.take a.1) 0)) ∧ (∀ id, a.2.2.bid = some id → σ4.length ≤ id) ∧ σ4.length ≤ a.2.1.length) (fun a => R.length - a.1) (0, σ4, .nils) ⟨by omega, hy, Own.nil _ _, (fun id h => by cases h), Nat.le_refl _⟩ rfl rfl ?_
        rintro ⟨i, σ5, o⟩ ⟨hi, hy5, ho, hob, hl45⟩
        dsimp only at hi hy5 ho hob hl45 ⊢
        by_cases hlt : i < R.length
        · obtain ⟨⟨leaf, ps⟩, hq⟩ : ∃ q, R[i]? = some q := ⟨_, List.getElem?_eq_getElem hlt⟩
          have hrow : (rvV R)[((i : Nat) : Int).toNat]? = some [.sl 4 (rnR leaf ps) true] := rvV_get hq
          have hqok := hq1 (leaf, ps) (List.mem_of_getElem? hq)
          have hqb := hqok.bd
          have hql := hqok.len
          dsimp only at hqb hql
          have htk : R.take (i + 1) = R.take i ++ [(leaf, ps)] := by rw [List.take_add_one, hq]; rfl
          have hwn : wrN (R.take (i + 1)) = wrN (R.take i) + hol1 ps.length := by rw [htk, wrN_append]; simp [wrN]
          have hwg : wrG (R.take (i + 1)) 0 = wrG (R.take i) 0 ++ lvB leaf ps ((wrN (R.take i) + hol1 ps.length : Nat) : Int) (hol1 ps.length) := by
            rw [htk, wrG_append]; simp [wrG]
          have hle : wrN (R.take i) + hol1 ps.length ≤ 20 := by
            rw [← hwn]
            have : wrN R = wrN (R.take (i + 1)) + wrN (R.drop (i + 1)) := by rw [← wrN_append, List.take_append_drop]
            omega
          have hWl := wrG_len (L := R.take i) (b := 0) (fun q hq => hq1 q (List.mem_of_mem_take hq)) (by omega)
          have hrl := rnR_length leaf ps
          repeat' (first
            | ((with_reducible refine Side.intro ?_) <;> (first
            | omega
            ))
            | ((conv => whnf) <;> (first
            | (with_reducible refine and_same ?_)
            | ((with_reducible apply Br.yes) ; (focus omega))
            | ((with_reducible apply blkAt_step) ; (focus (first
            | ((repeat (first
            | assumption
            )); done)
            )) ; (focus (first | rfl | assumption | omega)) ; (focus (first | rfl | assumption)) ; (try dsimp only))
            | ((with_reducible apply nthR_at) ; (focus assumption))
            | ((with_reducible apply lenR_own) ; (focus assumption))
            | ((with_reducible apply ia_own) ; (focus assumption))
            | (with_reducible refine lenR_sl ?_)
            | (with_reducible intro _)
            ))
            )
          all_goals (conv => whnf)
          all_goals (try dsimp only)
          refine loop_at (α := Nat × AH × AV) (fun a => [(10, a.2.2), (13, .int .i64 a.1)]) (fun a => a.2.1) (fun a => a.1 ≤ hol1 ps.length ∧ Own a.2.1 1 y (rvV R) ∧ Own a.2.1 1 a.2.2 (bs (wrG (R.take i) 0 ++ lvB leaf ps ((wrN (R.take i) + hol1 ps.length : Nat) : Int) a.1)) ∧ (∀ id, a.2.2.bid = some id → σ4.length ≤ id) ∧ σ4.length ≤ a.2.1.length) (fun a => hol1 ps.length - a.1) (0, σ5, o) ⟨by omega, hy5, by dsimp only; rw [show lvB leaf ps ((wrN (R.take i) + hol1 ps.length : Nat) : Int) 0 = [] from rfl, List.append_nil]; exact ho, hob, hl45⟩ rfl rfl ?_
          rintro ⟨k, σ6, o6⟩ ⟨hk, hy6, ho6, hob6, hl46⟩
          dsimp only at hk hy6 ho6 hob6 hl46 ⊢
          by_cases hkt : k < hol1 ps.length
          · have hrow2 : (rnR leaf ps)[((k : Nat) : Int).toNat]? = some [rwV (chk ps k), .int .i64 ((chk ps k).length : Nat), .bool leaf, .int .i64 (ps[7 * k]?.getD (0, 0)).1] := by rw [Int.toNat_natCast, rnR_get hkt]; rfl
            have hcl := chk_len ps k
            have hcm : ∀ p, p ∈ chk ps k → (0 ≤ p.1 ∧ p.1 ≤ 1048576) ∧ 0 ≤ p.2 ∧ p.2 ≤ 1048576 := fun p hp => hqb p (chk_mem hp)
            generalize wrG (R.take i) 0 = W at *
            generalize wrN (R.take i) = bn at *
            have hmk : RwMark (chk ps k) := ⟨⟩
            generalize hc : chk ps k = c at *
            cases leaf
            · repeat' (first
                | ((with_reducible refine Side.intro ?_) <;> (first
                | omega
                | exact Nat.le_of_ble_eq_true rfl
                | exact rfl
                ))
                | ((conv => whnf) <;> (first
                | (with_reducible refine and_same ?_)
                | (with_reducible refine and_side ?_ ?_)
                | ((with_reducible apply Br.yes) ; (focus omega))
                | ((with_reducible apply blkAt_step) ; (focus (first
                | ((repeat (first
                | assumption
                | exact get_new
                | exact get_set get_new
                )); done)
                )) ; (focus (first | rfl | assumption | omega)) ; (focus (first | rfl | assumption)) ; (try dsimp only))
                | ((with_reducible apply nthR_at) ; (focus assumption))
                | ((with_reducible apply nthR_atv) ; (focus assumption))
                | ((with_reducible apply ia_own) ; (focus assumption))
                | (with_reducible refine ia_sl ?_ ?_)
                | (with_reducible refine lenR_sl ?_)
                | (with_reducible intro _)
                ))
                )
              all_goals (conv => whnf)
              all_goals (try dsimp only)
              refine loop_at (α := Nat × AH × AV) (fun a => [(16, a.2.2), (17, .int .i64 a.1)]) (fun a => a.2.1) (fun a => a.1 ≤ 2 * c.length ∧ Gr σ6 a.2.1 none ∧ (∃ p, a.2.1[σ6.length]? = some { sz := 4, els := [[rwV c, .int .i64 (c.length : Nat), .bool false, .int .i64 (ps[7 * k]?.getD (0, 0)).1]], gen := 0, wr := true, pure := p }) ∧ Own a.2.1 1 a.2.2 (is ((2 * (c.length : Int) + 0) :: (flatP ((bn + hol1 ps.length : Nat) : Int) c).take a.1)) ∧ (∀ id, a.2.2.bid = some id → σ6.length < id)) (fun a => 2 * c.length - a.1) (0, _, .rsl (σ6.length + 1) 0 0 1 none) ⟨Nat.zero_le _, ?_, ?_, ?_, ?_⟩ ?_ rfl ?_
              · exact Gr.newN (Gr.setNew (Gr.newN (Gr.refl _ _) _ _ _) (Nat.le_refl _) _) _ _ _
              · exact ⟨_, get_old (get_set get_new)⟩
              · refine .inr ⟨σ6.length + 1, 0, [], rfl, ?_⟩
                dsimp only
                rw [List.append_nil, List.take_zero, List.getElem?_append_right (by simp [newB])]
                simp [newB, is]
                exact ⟨rfl, rfl⟩
              · intro id h; cases h; omega
              · simp only [List.length_set, newB_length]; rfl
              rintro ⟨j, σ7, w⟩ ⟨hj, hg7, ⟨p, c1⟩, hw, hwb⟩
              dsimp only at hj hg7 c1 hw hwb ⊢
              have hfl := flatP_length ((bn + hol1 ps.length : Nat) : Int) c
              have hfl0 := flatP_length 0 c
              have hwl : (is ((2 * (c.length : Int) + 0) :: (flatP ((bn + hol1 ps.length : Nat) : Int) c).take j)).length = j + 1 := by rw [is_length, List.length_cons, List.length_take]; omega
              have hl7 := (List.getElem?_eq_some_iff.1 c1).1
              by_cases hjt : j < 2 * c.length
              · obtain ⟨v, hv⟩ : ∃ v, (flatP 0 c)[((j : Nat) : Int).toNat]? = some v := ⟨_, List.getElem?_eq_getElem (by rw [Int.toNat_natCast]; omega)⟩
                have hv2 := flatP_get (sh := ((bn + hol1 ps.length : Nat) : Int)) (by rw [Int.toNat_natCast] at hv; exact hv)
                have hvb : 0 ≤ v ∧ v ≤ 1048576 := by
                  have hm := List.mem_of_getElem? hv
                  simp only [flatP, List.mem_flatMap, List.mem_cons, List.not_mem_nil, or_false] at hm
                  obtain ⟨p, hp, hm⟩ := hm
                  have := hcm p hp
                  omega
                have htk2 : ∀ x, (flatP ((bn + hol1 ps.length : Nat) : Int) c)[j]? = some x → is ((2 * (c.length : Int) + 0) :: (flatP ((bn + hol1 ps.length : Nat) : Int) c).take (j + 1)) = is ((2 * (c.length : Int) + 0) :: (flatP ((bn + hol1 ps.length : Nat) : Int) c).take j) ++ [[.int .i64 x]] := fun x hx => by
                  rw [List.take_add_one, hx, Option.toList_some, ← is_one, is_append]
                  rfl
                rcases Nat.mod_two_eq_zero_or_one j with hpar | hpar
                · rw [if_neg (by omega)] at hv2
                  repeat' (first
                    | ((with_reducible refine Side.intro ?_) <;> (first
                    | omega
                    | exact Nat.le_of_ble_eq_true rfl
                    | exact rfl
                    ))
                    | ((conv => whnf) <;> (first
                    | (with_reducible refine and_same ?_)
                    | (with_reducible refine and_side ?_ ?_)
                    | ((with_reducible apply Br.yes) ; (focus omega))
                    | ((with_reducible apply Br.no) ; (focus omega))
                    | ((with_reducible apply blkAt_step) ; (focus (first
                    | ((repeat (first
                    | assumption
                    | exact get_new
                    )); done)
                    )) ; (focus (first | rfl | assumption | omega)) ; (focus (first | rfl | assumption)) ; (try dsimp only))
                    | ((with_reducible apply rw_len) ; (focus assumption))
                    | ((with_reducible apply rw_ia) ; (focus assumption))
                    | (with_reducible refine AppC.frz ?_)
                    | (with_reducible refine rowsR_rsl ?_)
                    ))
                    )
                  all_goals (conv => whnf)
                  all_goals (try dsimp only)
                  refine appendR_own (rows := is ((2 * (c.length : Int) + 0) :: (flatP ((bn + hol1 ps.length : Nat) : Int) c).take j)) (Own.keepN (Gr.append _ _) hw) (by rw [hwl]; show (j + 1 + 1) * 8 ≤ _; omega) ?_
                  intro w' σ8 ho8 hg8 hb8
                  repeat' (first
                    | ((conv => whnf) <;> (first
                    | (with_reducible refine and_same ?_)
                    | ((with_reducible apply Br.yes) ; (focus omega))
                    ))
                    )
                  all_goals (conv => whnf)
                  all_goals (try dsimp only)
                  refine ⟨(j + 1, σ8, w'), rfl, rfl, ⟨by omega, gr_over (Gr.newN hg7 _ _ _) hg8 fun id hid => Nat.le_of_lt (hwb id hid), ⟨p, hg8.2 _ _ (get_old c1) fun e => Nat.lt_irrefl _ (hwb _ e)⟩, by dsimp only; rw [htk2 _ hv2]; exact ho8, new_app hwb hb8 (by simp only [newB_length]; omega)⟩, by omega⟩
                · rw [if_pos hpar] at hv2
                  repeat' (first
                    | ((with_reducible refine Side.intro ?_) <;> (first
                    | omega
                    | exact Nat.le_of_ble_eq_true rfl
                    | exact rfl
                    ))
                    | ((conv => whnf) <;> (first
                    | (with_reducible refine and_same ?_)
                    | (with_reducible refine and_side ?_ ?_)
                    | ((with_reducible apply Br.yes) ; (focus omega))
                    | ((with_reducible apply blkAt_step) ; (focus (first
                    | ((repeat (first
                    | assumption
                    | exact get_new
                    )); done)
                    )) ; (focus (first | rfl | assumption | omega)) ; (focus (first | rfl | assumption)) ; (try dsimp only))
                    | ((with_reducible apply rw_len) ; (focus assumption))
                    | ((with_reducible apply rw_ia) ; (focus assumption))
                    | (with_reducible refine AppC.frz ?_)
                    | (with_reducible refine rowsR_rsl ?_)
                    ))
                    )
                  all_goals (conv => whnf)
                  all_goals (try dsimp only)
                  refine appendR_own (rows := is ((2 * (c.length : Int) + 0) :: (flatP ((bn + hol1 ps.length : Nat) : Int) c).take j)) (Own.keepN (Gr.append _ _) hw) (by rw [hwl]; show (j + 1 + 1) * 8 ≤ _; omega) ?_
                  intro w' σ8 ho8 hg8 hb8
                  repeat' (first
                    | ((conv => whnf) <;> (first
                    | (with_reducible refine and_same ?_)
                    | ((with_reducible apply Br.yes) ; (focus omega))
                    ))
                    )
                  all_goals (conv => whnf)
                  all_goals (try dsimp only)
                  refine ⟨(j + 1, σ8, w'), rfl, rfl, ⟨by omega, gr_over (Gr.newN hg7 _ _ _) hg8 fun id hid => Nat.le_of_lt (hwb id hid), ⟨p, hg8.2 _ _ (get_old c1) fun e => Nat.lt_irrefl _ (hwb _ e)⟩, by dsimp only; rw [htk2 _ hv2]; rw [hrl, ← Int.natCast_add] at ho8; exact ho8, new_app hwb hb8 (by simp only [newB_length]; omega)⟩, by omega⟩
              · have hjE : j = 2 * c.length := by omega
                have hft : (flatP ((bn + hol1 ps.length : Nat) : Int) c).take j = flatP ((bn + hol1 ps.length : Nat) : Int) c := List.take_of_length_le (by omega)
                rw [hft] at hw
                repeat' (first
                  | ((conv => whnf) <;> (first
                  | (with_reducible refine and_same ?_)
                  | ((with_reducible apply Br.no) ; (focus omega))
                  | ((with_reducible apply blkAt_step) ; (focus (first
                  | ((repeat (first
                  | assumption
                  )); done)
                  )) ; (focus (first | rfl | assumption | omega)) ; (focus (first | rfl | assumption)) ; (try dsimp only))
                  | ((with_reducible apply rw_len) ; (focus assumption))
                  ))
                  )
                all_goals (conv => whnf)
                all_goals (try dsimp only)
                refine loop_live (α := Nat × AH × AV) (fun a => [(16, a.2.2)]) (fun a => a.2.1) (fun a => 2 * c.length + 1 + a.1 ≤ 16 ∧ Gr σ6 a.2.1 none ∧ Own a.2.1 1 a.2.2 (is (((2 * (c.length : Int) + 0) :: flatP ((bn + hol1 ps.length : Nat) : Int) c) ++ List.replicate a.1 0)) ∧ (∀ id, a.2.2.bid = some id → σ6.length < id)) (fun a => 16 - a.1) (0, σ7, w) ⟨by dsimp only; omega, hg7, by simpa using hw, hwb⟩ rfl rfl ?_
                rintro ⟨m, σ8, w8⟩ ⟨hm, hg8, hw8, hwb8⟩
                dsimp only at hm hg8 hw8 hwb8 ⊢
                have hwl8 : (is (((2 * (c.length : Int) + 0) :: flatP ((bn + hol1 ps.length : Nat) : Int) c) ++ List.replicate m 0)).length = 2 * c.length + 1 + m := by rw [is_length, List.length_append, List.length_cons, List.length_replicate]; omega
                by_cases hmt : 2 * c.length + 1 + m < 16
                · repeat' (first
                    | ((with_reducible refine Side.intro ?_) <;> (first
                    | omega
                    | exact Nat.le_of_ble_eq_true rfl
                    | exact rfl
                    ))
                    | ((conv => whnf) <;> (first
                    | (with_reducible refine and_same ?_)
                    | (with_reducible refine and_side ?_ ?_)
                    | ((with_reducible apply Br.yes) ; (focus omega))
                    | ((with_reducible apply blkAt_step) ; (focus (first
                    | ((repeat (first
                    | exact get_new
                    )); done)
                    )) ; (focus (first | rfl | assumption | omega)) ; (focus (first | rfl | assumption)) ; (try dsimp only))
                    | ((with_reducible apply lenR_own) ; (focus assumption))
                    | (with_reducible refine AppC.frz ?_)
                    | (with_reducible refine rowsR_rsl ?_)
                    ))
                    )
                  all_goals (conv => whnf)
                  all_goals (try dsimp only)
                  refine appendR_own (rows := is (((2 * (c.length : Int) + 0) :: flatP ((bn + hol1 ps.length : Nat) : Int) c) ++ List.replicate m 0)) (Own.keepN (Gr.append _ _) hw8) (by rw [hwl8]; show (_ + 1) * 8 ≤ _; omega) ?_
                  intro w' σ9 ho9 hg9 hb9
                  skip
                  all_goals (conv => whnf)
                  all_goals (try dsimp only)
                  refine ⟨(m + 1, σ9, w'), rfl, rfl, ⟨by dsimp only; omega, gr_over (Gr.newN hg8 _ _ _) hg9 fun id hid => Nat.le_of_lt (hwb8 id hid), ?_, new_app hwb8 hb9 (by have := hg8.1; simp only [newB_length]; omega)⟩, by dsimp only; omega⟩
                  dsimp only
                  rw [List.replicate_succ', ← List.append_assoc, ← is_append]
                  exact ho9
                · have hmE : m = 15 - 2 * c.length := by omega
                  subst hmE
                  repeat' (first
                    | ((conv => whnf) <;> (first
                    | (with_reducible refine and_same ?_)
                    | ((with_reducible apply Br.no) ; (focus omega))
                    | ((with_reducible apply lenR_own) ; (focus assumption))
                    ))
                    )
                  all_goals (conv => whnf)
                  all_goals (try dsimp only)
                  refine ROf_call _ (by rw [← is_length, hwl8]; omega) (Looks.ownis hw8) fun σ9 z hg9 hz hzn => ?_
                  have hgA := Gr.trans hg8 hg9
                  have hy9 := hy6.keepN hgA
                  have ho9 := ho6.keepN hgA
                  have hb9 : (bs (W ++ lvB false ps ((bn + hol1 ps.length : Nat) : Int) k)).length = 128 * (bn + k) := by
                    have hlb := lvB_len (leaf := false) (ps := ps) (sh := ((bn + hol1 ps.length : Nat) : Int)) k (by omega) (by omega) hqb
                    rw [bs_length, List.length_append, hWl, hlb]; omega
                  have hWe : nbB false ps ((bn + hol1 ps.length : Nat) : Int) k = ofR (((2 * (c.length : Int) + 0) :: flatP ((bn + hol1 ps.length : Nat) : Int) c) ++ List.replicate (15 - 2 * c.length) 0) := by
                    rw [nbB, hc, ndW_eq]; rfl
                  rw [← hWe] at hz
                  have hz9 : (bs (nbB false ps ((bn + hol1 ps.length : Nat) : Int) k)).length = 128 := by
                    rw [bs_length]; exact nbB_len k (by omega) (by omega) hqb
                  repeat' (first
                    | ((conv => whnf) <;> (first
                    | ((with_reducible apply rowsR_own) ; (focus assumption))
                    | (with_reducible refine AppC.frz ?_)
                    ))
                    )
                  all_goals (conv => whnf)
                  all_goals (try dsimp only)
                  refine appendR_own (rows := bs (W ++ lvB false ps ((bn + hol1 ps.length : Nat) : Int) k)) ho9 (by rw [hb9, hz9]; omega) ?_
                  intro o' σA hoA hgA2 hbA
                  have hyb : ∀ id, y.bid = some id → id < σ4.length := fun id hid => hy.lt hid
                  have hyA := hy9.keep hgA2 (by
                    cases hb : y.bid with
                    | none => exact .inl rfl
                    | some id => exact .inr fun e => absurd (hob6 id e) (by have := hyb id hb; omega))
                  have hl49 : σ4.length ≤ σ9.length := Nat.le_trans hl46 hgA.1
                  repeat' (first
                    | ((conv => whnf) <;> (first
                    | (with_reducible refine and_same ?_)
                    | ((with_reducible apply Br.yes) ; (focus omega))
                    ))
                    )
                  all_goals (conv => whnf)
                  all_goals (try dsimp only)
                  refine ⟨(k + 1, σA, o'), rfl, rfl, ⟨by omega, hyA, ?_, new_app hob6 hbA hl49, Nat.le_trans hl49 hgA2.1⟩, by omega⟩
                  dsimp only
                  rw [lvB_succ, ← List.append_assoc, ← bs_append]
                  exact hoA
            · repeat' (first
                | ((with_reducible refine Side.intro ?_) <;> (first
                | omega
                | exact Nat.le_of_ble_eq_true rfl
                | exact rfl
                ))
                | ((conv => whnf) <;> (first
                | (with_reducible refine and_same ?_)
                | (with_reducible refine and_side ?_ ?_)
                | ((with_reducible apply Br.yes) ; (focus omega))
                | ((with_reducible apply blkAt_step) ; (focus (first
                | ((repeat (first
                | assumption
                | exact get_new
                | exact get_set get_new
                )); done)
                )) ; (focus (first | rfl | assumption | omega)) ; (focus (first | rfl | assumption)) ; (try dsimp only))
                | ((with_reducible apply nthR_at) ; (focus assumption))
                | ((with_reducible apply nthR_atv) ; (focus assumption))
                | ((with_reducible apply ia_own) ; (focus assumption))
                | (with_reducible refine ia_sl ?_ ?_)
                | (with_reducible refine lenR_sl ?_)
                | (with_reducible intro _)
                ))
                )
              all_goals (conv => whnf)
              all_goals (try dsimp only)
              refine loop_at (α := Nat × AH × AV) (fun a => [(16, a.2.2), (17, .int .i64 a.1)]) (fun a => a.2.1) (fun a => a.1 ≤ 2 * c.length ∧ Gr σ6 a.2.1 none ∧ (∃ p, a.2.1[σ6.length]? = some { sz := 4, els := [[rwV c, .int .i64 (c.length : Nat), .bool true, .int .i64 (ps[7 * k]?.getD (0, 0)).1]], gen := 0, wr := true, pure := p }) ∧ Own a.2.1 1 a.2.2 (is ((2 * (c.length : Int) + 1) :: (flatP (0 : Int) c).take a.1)) ∧ (∀ id, a.2.2.bid = some id → σ6.length < id)) (fun a => 2 * c.length - a.1) (0, _, .rsl (σ6.length + 1) 0 0 1 none) ⟨Nat.zero_le _, ?_, ?_, ?_, ?_⟩ ?_ rfl ?_
              · exact Gr.newN (Gr.setNew (Gr.newN (Gr.refl _ _) _ _ _) (Nat.le_refl _) _) _ _ _
              · exact ⟨_, get_old (get_set get_new)⟩
              · refine .inr ⟨σ6.length + 1, 0, [], rfl, ?_⟩
                dsimp only
                rw [List.append_nil, List.take_zero, List.getElem?_append_right (by simp [newB])]
                simp [newB, is]
                exact ⟨rfl, rfl⟩
              · intro id h; cases h; omega
              · simp only [List.length_set, newB_length]; rfl
              rintro ⟨j, σ7, w⟩ ⟨hj, hg7, ⟨p, c1⟩, hw, hwb⟩
              dsimp only at hj hg7 c1 hw hwb ⊢
              have hfl := flatP_length (0 : Int) c
              have hfl0 := flatP_length 0 c
              have hwl : (is ((2 * (c.length : Int) + 1) :: (flatP (0 : Int) c).take j)).length = j + 1 := by rw [is_length, List.length_cons, List.length_take]; omega
              have hl7 := (List.getElem?_eq_some_iff.1 c1).1
              by_cases hjt : j < 2 * c.length
              · obtain ⟨v, hv⟩ : ∃ v, (flatP 0 c)[((j : Nat) : Int).toNat]? = some v := ⟨_, List.getElem?_eq_getElem (by rw [Int.toNat_natCast]; omega)⟩
                have hv2 := flatP_get (sh := (0 : Int)) (by rw [Int.toNat_natCast] at hv; exact hv)
                have hvb : 0 ≤ v ∧ v ≤ 1048576 := by
                  have hm := List.mem_of_getElem? hv
                  simp only [flatP, List.mem_flatMap, List.mem_cons, List.not_mem_nil, or_false] at hm
                  obtain ⟨p, hp, hm⟩ := hm
                  have := hcm p hp
                  omega
                have htk2 : ∀ x, (flatP (0 : Int) c)[j]? = some x → is ((2 * (c.length : Int) + 1) :: (flatP (0 : Int) c).take (j + 1)) = is ((2 * (c.length : Int) + 1) :: (flatP (0 : Int) c).take j) ++ [[.int .i64 x]] := fun x hx => by
                  rw [List.take_add_one, hx, Option.toList_some, ← is_one, is_append]
                  rfl
                rcases Nat.mod_two_eq_zero_or_one j with hpar | hpar
                · rw [if_neg (by omega)] at hv2
                  repeat' (first
                    | ((with_reducible refine Side.intro ?_) <;> (first
                    | omega
                    | exact Nat.le_of_ble_eq_true rfl
                    | exact rfl
                    ))
                    | ((conv => whnf) <;> (first
                    | (with_reducible refine and_same ?_)
                    | (with_reducible refine and_side ?_ ?_)
                    | ((with_reducible apply Br.yes) ; (focus omega))
                    | ((with_reducible apply blkAt_step) ; (focus (first
                    | ((repeat (first
                    | assumption
                    | exact get_new
                    )); done)
                    )) ; (focus (first | rfl | assumption | omega)) ; (focus (first | rfl | assumption)) ; (try dsimp only))
                    | ((with_reducible apply rw_len) ; (focus assumption))
                    | ((with_reducible apply rw_ia) ; (focus assumption))
                    | (with_reducible refine AppC.frz ?_)
                    | (with_reducible refine rowsR_rsl ?_)
                    ))
                    )
                  all_goals (conv => whnf)
                  all_goals (try dsimp only)
                  refine appendR_own (rows := is ((2 * (c.length : Int) + 1) :: (flatP (0 : Int) c).take j)) (Own.keepN (Gr.append _ _) hw) (by rw [hwl]; show (j + 1 + 1) * 8 ≤ _; omega) ?_
                  intro w' σ8 ho8 hg8 hb8
                  repeat' (first
                    | ((conv => whnf) <;> (first
                    | (with_reducible refine and_same ?_)
                    | ((with_reducible apply Br.yes) ; (focus omega))
                    ))
                    )
                  all_goals (conv => whnf)
                  all_goals (try dsimp only)
                  refine ⟨(j + 1, σ8, w'), rfl, rfl, ⟨by omega, gr_over (Gr.newN hg7 _ _ _) hg8 fun id hid => Nat.le_of_lt (hwb id hid), ⟨p, hg8.2 _ _ (get_old c1) fun e => Nat.lt_irrefl _ (hwb _ e)⟩, by dsimp only; rw [htk2 _ hv2]; exact ho8, new_app hwb hb8 (by simp only [newB_length]; omega)⟩, by omega⟩
                · rw [if_pos hpar] at hv2
                  repeat' (first
                    | ((with_reducible refine Side.intro ?_) <;> (first
                    | omega
                    | exact Nat.le_of_ble_eq_true rfl
                    | exact rfl
                    ))
                    | ((conv => whnf) <;> (first
                    | (with_reducible refine and_same ?_)
                    | (with_reducible refine and_side ?_ ?_)
                    | ((with_reducible apply Br.yes) ; (focus omega))
                    | ((with_reducible apply blkAt_step) ; (focus (first
                    | ((repeat (first
                    | assumption
                    | exact get_new
                    )); done)
                    )) ; (focus (first | rfl | assumption | omega)) ; (focus (first | rfl | assumption)) ; (try dsimp only))
                    | ((with_reducible apply rw_len) ; (focus assumption))
                    | ((with_reducible apply rw_ia) ; (focus assumption))
                    | (with_reducible refine AppC.frz ?_)
                    | (with_reducible refine rowsR_rsl ?_)
                    ))
                    )
                  all_goals (conv => whnf)
                  all_goals (try dsimp only)
                  refine appendR_own (rows := is ((2 * (c.length : Int) + 1) :: (flatP (0 : Int) c).take j)) (Own.keepN (Gr.append _ _) hw) (by rw [hwl]; show (j + 1 + 1) * 8 ≤ _; omega) ?_
                  intro w' σ8 ho8 hg8 hb8
                  repeat' (first
                    | ((conv => whnf) <;> (first
                    | (with_reducible refine and_same ?_)
                    | ((with_reducible apply Br.yes) ; (focus omega))
                    ))
                    )
                  all_goals (conv => whnf)
                  all_goals (try dsimp only)
                  refine ⟨(j + 1, σ8, w'), rfl, rfl, ⟨by omega, gr_over (Gr.newN hg7 _ _ _) hg8 fun id hid => Nat.le_of_lt (hwb id hid), ⟨p, hg8.2 _ _ (get_old c1) fun e => Nat.lt_irrefl _ (hwb _ e)⟩, by dsimp only; rw [htk2 _ hv2];  exact ho8, new_app hwb hb8 (by simp only [newB_length]; omega)⟩, by omega⟩
              · have hjE : j = 2 * c.length := by omega
                have hft : (flatP (0 : Int) c).take j = flatP (0 : Int) c := List.take_of_length_le (by omega)
                rw [hft] at hw
                repeat' (first
                  | ((conv => whnf) <;> (first
                  | (with_reducible refine and_same ?_)
                  | ((with_reducible apply Br.no) ; (focus omega))
                  | ((with_reducible apply blkAt_step) ; (focus (first
                  | ((repeat (first
                  | assumption
                  )); done)
                  )) ; (focus (first | rfl | assumption | omega)) ; (focus (first | rfl | assumption)) ; (try dsimp only))
                  | ((with_reducible apply rw_len) ; (focus assumption))
                  ))
                  )
                all_goals (conv => whnf)
                all_goals (try dsimp only)
                refine loop_live (α := Nat × AH × AV) (fun a => [(16, a.2.2)]) (fun a => a.2.1) (fun a => 2 * c.length + 1 + a.1 ≤ 16 ∧ Gr σ6 a.2.1 none ∧ Own a.2.1 1 a.2.2 (is (((2 * (c.length : Int) + 1) :: flatP (0 : Int) c) ++ List.replicate a.1 0)) ∧ (∀ id, a.2.2.bid = some id → σ6.length < id)) (fun a => 16 - a.1) (0, σ7, w) ⟨by dsimp only; omega, hg7, by simpa using hw, hwb⟩ rfl rfl ?_
                rintro ⟨m, σ8, w8⟩ ⟨hm, hg8, hw8, hwb8⟩
                dsimp only at hm hg8 hw8 hwb8 ⊢
                have hwl8 : (is (((2 * (c.length : Int) + 1) :: flatP (0 : Int) c) ++ List.replicate m 0)).length = 2 * c.length + 1 + m := by rw [is_length, List.length_append, List.length_cons, List.length_replicate]; omega
                by_cases hmt : 2 * c.length + 1 + m < 16
                · repeat' (first
                    | ((with_reducible refine Side.intro ?_) <;> (first
                    | omega
                    | exact Nat.le_of_ble_eq_true rfl
                    | exact rfl
                    ))
                    | ((conv => whnf) <;> (first
                    | (with_reducible refine and_same ?_)
                    | (with_reducible refine and_side ?_ ?_)
                    | ((with_reducible apply Br.yes) ; (focus omega))
                    | ((with_reducible apply blkAt_step) ; (focus (first
                    | ((repeat (first
                    | exact get_new
                    )); done)
                    )) ; (focus (first | rfl | assumption | omega)) ; (focus (first | rfl | assumption)) ; (try dsimp only))
                    | ((with_reducible apply lenR_own) ; (focus assumption))
                    | (with_reducible refine AppC.frz ?_)
                    | (with_reducible refine rowsR_rsl ?_)
                    ))
                    )
                  all_goals (conv => whnf)
                  all_goals (try dsimp only)
                  refine appendR_own (rows := is (((2 * (c.length : Int) + 1) :: flatP (0 : Int) c) ++ List.replicate m 0)) (Own.keepN (Gr.append _ _) hw8) (by rw [hwl8]; show (_ + 1) * 8 ≤ _; omega) ?_
                  intro w' σ9 ho9 hg9 hb9
                  skip
                  all_goals (conv => whnf)
                  all_goals (try dsimp only)
                  refine ⟨(m + 1, σ9, w'), rfl, rfl, ⟨by dsimp only; omega, gr_over (Gr.newN hg8 _ _ _) hg9 fun id hid => Nat.le_of_lt (hwb8 id hid), ?_, new_app hwb8 hb9 (by have := hg8.1; simp only [newB_length]; omega)⟩, by dsimp only; omega⟩
                  dsimp only
                  rw [List.replicate_succ', ← List.append_assoc, ← is_append]
                  exact ho9
                · have hmE : m = 15 - 2 * c.length := by omega
                  subst hmE
                  repeat' (first
                    | ((conv => whnf) <;> (first
                    | (with_reducible refine and_same ?_)
                    | ((with_reducible apply Br.no) ; (focus omega))
                    | ((with_reducible apply lenR_own) ; (focus assumption))
                    ))
                    )
                  all_goals (conv => whnf)
                  all_goals (try dsimp only)
                  refine ROf_call _ (by rw [← is_length, hwl8]; omega) (Looks.ownis hw8) fun σ9 z hg9 hz hzn => ?_
                  have hgA := Gr.trans hg8 hg9
                  have hy9 := hy6.keepN hgA
                  have ho9 := ho6.keepN hgA
                  have hb9 : (bs (W ++ lvB true ps ((bn + hol1 ps.length : Nat) : Int) k)).length = 128 * (bn + k) := by
                    have hlb := lvB_len (leaf := true) (ps := ps) (sh := ((bn + hol1 ps.length : Nat) : Int)) k (by omega) (by omega) hqb
                    rw [bs_length, List.length_append, hWl, hlb]; omega
                  have hWe : nbB true ps ((bn + hol1 ps.length : Nat) : Int) k = ofR (((2 * (c.length : Int) + 1) :: flatP (0 : Int) c) ++ List.replicate (15 - 2 * c.length) 0) := by
                    rw [nbB, hc, ndW_eq]; rfl
                  rw [← hWe] at hz
                  have hz9 : (bs (nbB true ps ((bn + hol1 ps.length : Nat) : Int) k)).length = 128 := by
                    rw [bs_length]; exact nbB_len k (by omega) (by omega) hqb
                  repeat' (first
                    | ((conv => whnf) <;> (first
                    | ((with_reducible apply rowsR_own) ; (focus assumption))
                    | (with_reducible refine AppC.frz ?_)
                    ))
                    )
                  all_goals (conv => whnf)
                  all_goals (try dsimp only)
                  refine appendR_own (rows := bs (W ++ lvB true ps ((bn + hol1 ps.length : Nat) : Int) k)) ho9 (by rw [hb9, hz9]; omega) ?_
                  intro o' σA hoA hgA2 hbA
                  have hyb : ∀ id, y.bid = some id → id < σ4.length := fun id hid => hy.lt hid
                  have hyA := hy9.keep hgA2 (by
                    cases hb : y.bid with
                    | none => exact .inl rfl
                    | some id => exact .inr fun e => absurd (hob6 id e) (by have := hyb id hb; omega))
                  have hl49 : σ4.length ≤ σ9.length := Nat.le_trans hl46 hgA.1
                  repeat' (first
                    | ((conv => whnf) <;> (first
                    | (with_reducible refine and_same ?_)
                    | ((with_reducible apply Br.yes) ; (focus omega))
                    ))
                    )
                  all_goals (conv => whnf)
                  all_goals (try dsimp only)
                  refine ⟨(k + 1, σA, o'), rfl, rfl, ⟨by omega, hyA, ?_, new_app hob6 hbA hl49, Nat.le_trans hl49 hgA2.1⟩, by omega⟩
                  dsimp only
                  rw [lvB_succ, ← List.append_assoc, ← bs_append]
                  exact hoA
          · repeat' (first
              | ((with_reducible refine Side.intro ?_) <;> (first
              | omega
              ))
              | ((conv => whnf) <;> (first
              | (with_reducible refine and_same ?_)
              | ((with_reducible apply Br.yes) ; (focus omega))
              | ((with_reducible apply Br.no) ; (focus omega))
              | ((with_reducible apply blkAt_step) ; (focus (first
              | ((repeat (first
              | assumption
              )); done)
              )) ; (focus (first | rfl | assumption | omega)) ; (focus (first | rfl | assumption)) ; (try dsimp only))
              | ((with_reducible apply nthR_at) ; (focus assumption))
              | ((with_reducible apply ia_own) ; (focus assumption))
              | (with_reducible refine lenR_sl ?_)
              | (with_reducible intro _)
              ))
              )
            all_goals (conv => whnf)
            all_goals (try dsimp only)
            have hkE : k = hol1 ps.length := by omega
            subst hkE
            refine ⟨(i + 1, σ6, o6), ?_, rfl, ⟨by omega, hy6, by dsimp only; rw [hwg]; exact ho6, hob6, hl46⟩, by omega⟩
            rw [hwn, Int.natCast_add, Int.natCast_add, hrl]
            rfl
        · have hiE : i = R.length := by omega
          subst hiE
          rw [List.take_length] at ho ⊢
          repeat' (first
            | ((conv => whnf) <;> (first
            | (with_reducible refine and_same ?_)
            | ((with_reducible apply Br.no) ; (focus omega))
            | ((with_reducible apply lenR_own) ; (focus assumption))
            ))
            )
          all_goals (conv => whnf)
          all_goals (try dsimp only)
          refine loop_live (α := Nat × AH × AV) (fun a => [(10, a.2.2)]) (fun a => a.2.1) (fun a => (wrG R 0).length + a.1 ≤ 128 * room.toNat ∧ Own a.2.1 1 a.2.2 (bs (wrG R 0 ++ List.replicate a.1 0))) (fun a => 128 * room.toNat - a.1) (0, σ5, o) ⟨by dsimp only; omega, by simpa using ho⟩ rfl rfl ?_
          rintro ⟨m, σ6, o6⟩ ⟨hm, ho6⟩
          dsimp only at hm ho6 ⊢
          have hol : (bs (wrG R 0 ++ List.replicate m 0)).length = (wrG R 0).length + m := by rw [bs_length, List.length_append, List.length_replicate]
          by_cases hmt : (wrG R 0).length + m < 128 * room.toNat
          · repeat' (first
              | ((with_reducible refine Side.intro ?_) <;> (first
              | omega
              | exact Nat.le_of_ble_eq_true rfl
              | exact rfl
              ))
              | ((conv => whnf) <;> (first
              | (with_reducible refine and_same ?_)
              | (with_reducible refine and_side ?_ ?_)
              | ((with_reducible apply Br.yes) ; (focus omega))
              | ((with_reducible apply blkAt_step) ; (focus (first
              | ((repeat (first
              | exact get_new
              )); done)
              )) ; (focus (first | rfl | assumption | omega)) ; (focus (first | rfl | assumption)) ; (try dsimp only))
              | ((with_reducible apply lenR_own) ; (focus assumption))
              | (with_reducible refine AppC.frz ?_)
              | (with_reducible refine rowsR_rsl ?_)
              ))
              )
            all_goals (conv => whnf)
            all_goals (try dsimp only)
            refine appendR_own (rows := bs (wrG R 0 ++ List.replicate m 0)) (Own.keepN (Gr.append _ _) ho6) (by rw [hol]; show (_ + 1) * 1 ≤ _; omega) ?_
            intro o7 σ7 ho7 hg7 hb7
            skip
            all_goals (conv => whnf)
            all_goals (try dsimp only)
            refine ⟨(m + 1, σ7, o7), rfl, rfl, ⟨by omega, ?_⟩, by omega⟩
            dsimp only
            rw [List.replicate_succ', ← List.append_assoc, ← bs_append]
            exact ho7
          · have hmE : m = 128 * room.toNat - (wrG R 0).length := by omega
            subst hmE
            repeat' (first
              | ((with_reducible refine Side.intro ?_) <;> (first
              | (simp only [List.append_nil, List.nil_append, List.map_nil]; first | exact List.nodup_nil | exact nodup_bid1 _ | exact nodup_bid2 (by assumption))
              | ((first | refine fresh_tup ?_ | skip); (repeat (first | exact fresh_bs _ |  exact FreshA.sl _ _ FreshA_bs | exact FreshA.sl _ _ FreshA_is | exact FreshA.nils | exact FreshA.nilp | exact FreshA.int _ _ | exact FreshA.bool _ | exact FreshA.str _ | exact fresh_nil | refine fresh_cons ?_ ?_ | with_reducible refine fresh_aggR ?_ | with_reducible refine fresh_agg ?_ | with_reducible exact fresh_nilA | with_reducible refine fresh_consA ?_ ?_)); done)
              ))
              | ((conv => whnf) <;> (first
              | (with_reducible refine and_same ?_)
              | (with_reducible refine and_side ?_ ?_)
              | ((with_reducible apply Br.yes) ; (focus omega))
              | ((with_reducible apply Br.no) ; (focus omega))
              | ((with_reducible apply lenR_own) ; (focus assumption))
              | ((with_reducible apply NOut.own) ; (focus assumption))
              | (with_reducible refine NOut.lit ?_)
              ))
              )
            all_goals (conv => whnf)
            all_goals (try dsimp only)
            exact ret_same rfl
end Go.Proofs.Ythalikgchafjiaa

namespace Go.Proofs.Ythalikgchafjiaa
open Go Go.Proofs.Ythalikgchafjiaa.V
set_option maxRecDepth 20000
attribute [local irreducible] CallS AOK AOKn ALoop Side Ref.ok
/-! Trees are read. -/
structure GtMark (b : List UInt8) (k : Nat) : Prop where
  of ::
theorem gt_len {σ : AH} {b : List UInt8} {k : Nat} {K : Nat → Prop} (_ : GtMark b k) (hk : K (gtN b k)) : LenW σ (gtV b k) K := by
  unfold gtV
  split
  · rename_i h; rw [h] at hk; exact lenR_nils hk
  · exact lenR_sl (by rw [sp_length, gtP_length]; exact hk)
theorem gt_ia {σ : AH} {b : List UInt8} {k : Nat} {n : Int} {p : Int × Int} {K : AV → Prop} (h : (gtP b k (gtN b k))[n.toNat]? = some p) (h0 : Side (0 ≤ n)) (hk : K (.vptr [.int .i64 p.1, .int .i64 p.2] 0)) : IaW σ 2 (gtV b k) n K := by
  unfold gtV
  split
  · rename_i hc
    rw [hc] at h
    cases h
  · exact ia_sl h0 (nthR_sp h hk)
def exO (p : Int × Int) : Int × Int × Int := (p.1, p.2 / 4, p.2 % 4)
def rdN (b : List UInt8) (i m : Nat) : List (Int × Int × Int) := if gtH b i % 2 = 1 then (gtP b i m).map exO else []
def rdK (b : List UInt8) (k : Nat) : List (Int × Int × Int) := ((List.range k).map fun i => rdN b i (gtN b i)).flatten
def rdB (pages : Int) (b : List UInt8) : Bool := decide (b.length % 128 = 0 ∧ b.length / 128 ≤ 13 ∧ wrE pages (b.length / 128 : Nat) (rdK b (b.length / 128)) = 0 ∧ wrL pages (b.length / 128 : Nat) (rdK b (b.length / 128)) = b)
def rdL (pages : Int) (b : List UInt8) : List (Int × Int × Int) := if rdB pages b then rdK b (b.length / 128) else []
theorem rdK_zero (b : List UInt8) : rdK b 0 = [] := rfl
theorem rdK_succ (b : List UInt8) (k : Nat) : rdK b (k + 1) = rdK b k ++ rdN b k (gtN b k) := by simp [rdK, List.range_succ]
theorem gtN_le (b : List UInt8) (k : Nat) : gtN b k ≤ 7 := by unfold gtN; omega
theorem rdN_len (b : List UInt8) (i m : Nat) : (rdN b i m).length ≤ m := by
  unfold rdN
  split
  · rw [List.length_map, gtP_length]; exact Nat.le_refl _
  · simp
theorem rdK_len (b : List UInt8) (k : Nat) : (rdK b k).length ≤ 7 * k := by
  induction k with
  | zero => simp [rdK]
  | succ k ih =>
    rw [rdK_succ, List.length_append]
    have := rdN_len b k (gtN b k)
    have := gtN_le b k
    omega
theorem gtP_get {b : List UInt8} {k m j : Nat} (h : j < m) : (gtP b k m)[j]? = some (((getV (ndB b k) (1 + 2 * (j : Int)) : Nat) : Int), ((getV (ndB b k) (2 + 2 * (j : Int)) : Nat) : Int)) := by
  simp only [gtP, List.getElem?_map]
  rw [List.getElem?_range h]
  rfl
theorem gtP_bd {b : List UInt8} {k m j : Nat} {p : Int × Int} (h : (gtP b k m)[j]? = some p) : (0 ≤ p.1 ∧ p.1 < 4611686018427387904) ∧ 0 ≤ p.2 ∧ p.2 < 4611686018427387904 := by
  have hj : j < m := by have := (List.getElem?_eq_some_iff.1 h).1; rwa [gtP_length] at this
  rw [gtP_get hj] at h
  cases h
  have h1 := getV_bd8 (ndB b k) (1 + 2 * (j : Int))
  have h2 := getV_bd8 (ndB b k) (2 + 2 * (j : Int))
  dsimp only
  refine ⟨⟨by omega, ?_⟩, by omega, ?_⟩
  · exact Int.ofNat_lt.2 h1
  · exact Int.ofNat_lt.2 h2
theorem wrE_ok {pages room : Int} {l : List (Int × Int × Int)} (h : wrE pages room l = 0) : rt pages l = true ∧ ((ndN l.length : Nat) : Int) ≤ room ∧ room ≤ 13 := by
  unfold wrE at h
  split at h
  · rename_i hR
    split at h
    · cases h
    · rename_i q
      have hI : ndI l.length = (ndN l.length : Nat) := by rw [ndI, if_neg (by omega)]; rfl
      rw [hI] at q
      exact ⟨hR, by omega, by omega⟩
  · cases h
theorem wrL_len {pages room : Int} {l : List (Int × Int × Int)} (h : wrE pages room l = 0) : (wrL pages room l).length = 128 * room.toNat := by
  obtain ⟨hR, h1, h2⟩ := wrE_ok h
  obtain ⟨hq1, hq2, hq3⟩ := wrR_ok hR
  have hWl := wrG_len (b := 0) hq1 (by omega)
  rw [wrL, if_pos h, wrB, List.length_append, List.length_replicate, hWl, hq2]
  omega
attribute [local irreducible] gtV gtP gtN gtH rdK
theorem Equal_ok (s t : List UInt8) (hs : s.length ≤ 4611686018) (ht : t.length ≤ 4611686018) : AOKn Try.prog F.bytes_Equal [.sl 1 (bs s) false, .sl 1 (bs t) false] fun y => y = .bool (decide (s = t)) := by
  refine AOKn.by_steps mixed fc_bytes_Equal_ok (by simp [fc_bytes_Equal]) ?_
  repeat' (first
    | ((with_reducible refine Side.intro ?_) <;> (first
    | (simp only [List.append_nil, List.nil_append, List.map_nil]; first | exact List.nodup_nil | exact nodup_bid1 _ | exact nodup_bid2 (by assumption))
    | ((first | refine fresh_tup ?_ | skip); (repeat (first | exact fresh_bk _ |  exact FreshA.sl _ _ FreshA_bs | exact FreshA.sl _ _ FreshA_is | exact FreshA.nils | exact FreshA.nilp | exact FreshA.int _ _ | exact FreshA.bool _ | exact FreshA.str _ | exact fresh_nil | refine fresh_cons ?_ ?_ | with_reducible refine fresh_aggR ?_ | with_reducible refine fresh_agg ?_ | with_reducible exact fresh_nilA | with_reducible refine fresh_consA ?_ ?_)); done)
    ))
    | ((conv => whnf) <;> (first
    | (with_reducible refine and_side ?_ ?_)
    | (with_reducible refine Br.mk (fun _ => ?_) (fun _ => ?_))
    | (with_reducible refine NOut.lit ?_)
    | (with_reducible refine rowsR_sl ?_)
    | ((with_reducible apply bytesR_intro) ; (focus (first | rfl | (simp only [bs_take, bs_drop, bs_append]; rfl))))
    ))
    )
  all_goals (conv => whnf)
  all_goals (try dsimp only)
  · exact ret_bool (decide_eq_true ‹_›).symm
  · exact ret_bool (decide_eq_false ‹_›).symm
theorem Equal_call (s t : List UInt8) (hs : s.length ≤ 4611686018) (ht : t.length ≤ 4611686018) {σ : AH} {x y : AV} (hx : Looks σ x (.sl 1 (bs s) false)) (hy : Looks σ y (.sl 1 (bs t) false)) {Q : AV → AH → Prop} (h : ∀ σ', Gr σ σ' none → Q (.bool (decide (s = t))) σ') : CallS Try.prog F.bytes_Equal [x, y] σ Q :=
  call_one (Equal_ok s t hs ht) (.cons hx (.cons hy .nil)) rfl h
theorem Read_ok (pages : Int) (b : List UInt8) (hb : b.length ≤ 4611686018427) : AOKn Try.prog F.tree_Read [.int .i64 pages, .sl 1 (bs b) false] fun y => y = .tup [.sl 3 (bk (rdL pages b)) true, .bool (rdB pages b)] := by
  have hn := bs_length b
  refine AOKn.by_steps mixed fc_tree_Read_ok (by simp [fc_tree_Read]) ?_
  by_cases h128 : b.length % 128 = 0
  · repeat' (first
      | ((with_reducible refine Side.intro ?_) <;> (first
      | omega
      ))
      | ((conv => whnf) <;> (first
      | (with_reducible refine and_same ?_)
      | (with_reducible refine and_side ?_ ?_)
      | ((with_reducible apply Br.yes) ; (focus omega))
      | ((with_reducible apply Br.no) ; (focus omega))
      | (with_reducible refine lenR_sl ?_)
      ))
      )
    all_goals (conv => whnf)
    all_goals (try dsimp only)
    all_goals first
      | (exfalso; omega)
      | skip
    refine call_one (Nodes_ok _ (by omega)) (.cons (Looks.int _ _ _) .nil) rfl fun σ1 hg1 => ?_
    rw [ndN_64]
    by_cases h13 : b.length / 128 ≤ 13
    · repeat' (first
        | ((conv => whnf) <;> (first
        | (with_reducible refine and_same ?_)
        | ((with_reducible apply Br.no) ; (focus omega))
        ))
        )
      all_goals (conv => whnf)
      all_goals (try dsimp only)
      refine loop_at (α := Nat × AH × AV) (fun a => [(7, a.2.2), (27, .int .i64 a.1)]) (fun a => a.2.1) (fun a => a.1 ≤ b.length / 128 ∧ Own a.2.1 3 a.2.2 (bk (rdK b a.1))) (fun a => b.length / 128 - a.1) (0, σ1, .nils) ⟨by omega, by dsimp only; rw [rdK_zero]; exact Own.nil _ _⟩ rfl rfl ?_
      rintro ⟨k, σ2, x⟩ ⟨hk, hx⟩
      dsimp only at hk hx ⊢
      have hrl := rdK_len b k
      by_cases hkt : k < b.length / 128
      · have hgl := gtN_le b k
        have hmk : GtMark b k := ⟨⟩
        repeat' (first
          | ((conv => whnf) <;> (first
          | (with_reducible refine and_same ?_)
          | ((with_reducible apply Br.yes) ; (focus omega))
          ))
          )
        all_goals (conv => whnf)
        all_goals (try dsimp only)
        refine call_one (get_ok b k (by omega) hb) (.cons (Looks.bs _ _ _) (.cons (Looks.int _ _ _) .nil)) rfl fun σ3 hg3 => ?_
        replace hx := hx.keepN hg3
        by_cases hpar : gtH b k % 2 = 1
        · have hN : ∀ m, rdN b k m = (gtP b k m).map exO := fun m => by rw [rdN, if_pos hpar]
          rw [decide_eq_true hpar]
          repeat' (first
            | ((with_reducible refine Side.intro ?_) <;> (first
            | exact Nat.le_of_ble_eq_true rfl
            | exact rfl
            ))
            | ((conv => whnf) <;> (first
            | (with_reducible refine and_same ?_)
            | (with_reducible refine and_side ?_ ?_)
            | ((with_reducible apply blkAt_step) ; (focus (first
            | ((repeat (first
            | exact get_new
            | exact get_set get_new
            )); done)
            )) ; (focus (first | rfl | assumption | omega)) ; (focus (first | rfl | assumption)) ; (try dsimp only))
            | ((with_reducible apply gt_len) ; (focus assumption))
            ))
            )
          all_goals (conv => whnf)
          all_goals (try dsimp only)
          refine loop_at (α := Nat × AH × AV) (fun a => [(7, a.2.2), (39, .int .i64 a.1)]) (fun a => a.2.1) (fun a => a.1 ≤ gtN b k ∧ Own a.2.1 3 a.2.2 (bk (rdK b k ++ rdN b k a.1))) (fun a => gtN b k - a.1) (0, _, x) ⟨by omega, ?_⟩ rfl rfl ?_
          · have e0 : rdN b k 0 = [] := List.length_eq_zero_iff.1 (Nat.le_zero.1 (rdN_len b k 0))
            dsimp only
            rw [e0, List.append_nil]
            exact Own.keepN (Gr.setNew (Gr.newN (Gr.refl _ _) _ _ _) (Nat.le_refl _) _) hx
          rintro ⟨j, σ4, x4⟩ ⟨hj, hx4⟩
          dsimp only at hj hx4 ⊢
          by_cases hjt : j < gtN b k
          · obtain ⟨p, hp⟩ : ∃ p, (gtP b k (gtN b k))[((j : Nat) : Int).toNat]? = some p := ⟨_, List.getElem?_eq_getElem (by rw [gtP_length, Int.toNat_natCast]; omega)⟩
            have hpb := gtP_bd hp
            have hsn : rdN b k (j + 1) = rdN b k j ++ [exO p] := by
              rw [Int.toNat_natCast, gtP_get hjt] at hp
              cases hp
              rw [hN, hN, gtP_succ, List.map_append]
              rfl
            have hll : (bk (rdK b k ++ rdN b k j)).length ≤ 98 := by
              have := rdN_len b k j
              rw [bk_length, List.length_append]
              omega
            repeat' (first
              | ((with_reducible refine Side.intro ?_) <;> (first
              | omega
              | exact Nat.le_of_ble_eq_true rfl
              | exact rfl
              ))
              | ((conv => whnf) <;> (first
              | (with_reducible refine and_same ?_)
              | (with_reducible refine and_side ?_ ?_)
              | ((with_reducible apply Br.yes) ; (focus omega))
              | ((with_reducible apply blkAt_step) ; (focus (first
              | ((repeat (first
              | exact get_new
              | exact get_set get_new
              )); done)
              )) ; (focus (first | rfl | assumption | omega)) ; (focus (first | rfl | assumption)) ; (try dsimp only))
              | ((with_reducible apply gt_ia) ; (focus assumption))
              ))
              )
            all_goals (conv => whnf)
            all_goals (try dsimp only)
            refine call_one (extent_ok p.1 p.2 (by omega) (by omega)) (.cons (.same rfl) .nil) rfl fun σ5 hg5 => ?_
            have hg45 : Gr σ4 σ5 none := Gr.trans (Gr.setNew (Gr.newN (Gr.refl _ _) _ _ _) (Nat.le_refl _) _) hg5
            repeat' (first
              | ((with_reducible refine Side.intro ?_) <;> (first
              | omega
              | exact Nat.le_of_ble_eq_true rfl
              | exact rfl
              ))
              | ((conv => whnf) <;> (first
              | (with_reducible refine and_same ?_)
              | (with_reducible refine and_side ?_ ?_)
              | ((with_reducible apply blkAt_step) ; (focus (first
              | ((repeat (first
              | exact get_new
              )); done)
              )) ; (focus (first | rfl | assumption | omega)) ; (focus (first | rfl | assumption)) ; (try dsimp only))
              | (with_reducible refine AppC.frz ?_)
              | (with_reducible refine rowsR_rsl ?_)
              ))
              )
            all_goals (conv => whnf)
            all_goals (try dsimp only)
            refine appendR_own (rows := bk (rdK b k ++ rdN b k j)) (Own.keepN (Gr.newN hg45 _ _ _) hx4) (by show (_ + 1) * 24 ≤ _; omega) ?_
            intro x' σ6 ho6 hg6 hb6
            repeat' (first
              | ((conv => whnf) <;> (first
              | (with_reducible refine and_same ?_)
              | ((with_reducible apply Br.yes) ; (focus omega))
              ))
              )
            all_goals (conv => whnf)
            all_goals (try dsimp only)
            refine ⟨(j + 1, σ6, x'), rfl, rfl, ⟨by omega, ?_⟩, by omega⟩
            dsimp only
            rw [hsn, ← List.append_assoc, bk_append]
            exact ho6
          · have hjE : j = gtN b k := by omega
            subst hjE
            repeat' (first
              | ((conv => whnf) <;> (first
              | (with_reducible refine and_same ?_)
              | ((with_reducible apply Br.yes) ; (focus omega))
              | ((with_reducible apply Br.no) ; (focus omega))
              ))
              )
            all_goals (conv => whnf)
            all_goals (try dsimp only)
            exact ⟨(k + 1, σ4, x4), rfl, rfl, ⟨by omega, by dsimp only; rw [rdK_succ]; exact hx4⟩, by omega⟩
        · have hN : rdN b k (gtN b k) = [] := by rw [rdN, if_neg hpar]
          rw [decide_eq_false hpar]
          repeat' (first
            | ((with_reducible refine Side.intro ?_) <;> (first
            | exact Nat.le_of_ble_eq_true rfl
            | exact rfl
            ))
            | ((conv => whnf) <;> (first
            | (with_reducible refine and_same ?_)
            | (with_reducible refine and_side ?_ ?_)
            | ((with_reducible apply Br.yes) ; (focus omega))
            | ((with_reducible apply blkAt_step) ; (focus (first
            | ((repeat (first
            | exact get_new
            | exact get_set get_new
            )); done)
            )) ; (focus (first | rfl | assumption | omega)) ; (focus (first | rfl | assumption)) ; (try dsimp only))
            ))
            )
          all_goals (conv => whnf)
          all_goals (try dsimp only)
          refine ⟨(k + 1, _, x), rfl, rfl, ⟨by omega, ?_⟩, by omega⟩
          dsimp only
          rw [rdK_succ, hN, List.append_nil]
          exact Own.keepN (Gr.setNew (Gr.newN (Gr.refl _ _) _ _ _) (Nat.le_refl _) _) hx
      · have hkE : k = b.length / 128 := by omega
        subst hkE
        repeat' (first
          | ((conv => whnf) <;> (first
          | (with_reducible refine and_same ?_)
          | ((with_reducible apply Br.no) ; (focus omega))
          ))
          )
        all_goals (conv => whnf)
        all_goals (try dsimp only)
        refine call_sl1 (Write_ok pages ((b.length / 128 : Nat) : Int) (rdK b (b.length / 128)) (by omega)) (.cons (Looks.int _ _ _) (.cons (.same (by rw [hn]; rfl)) (.cons (Looks.ownbk hx) .nil))) rfl fun σ3 y hg3 hy hny => ?_
        replace hx := hx.keepN hg3
        by_cases hE : wrE pages ((b.length / 128 : Nat) : Int) (rdK b (b.length / 128)) = 0
        · rw [hE]
          have hWl := wrL_len hE
          repeat' (first
            | ((conv => whnf) <;> (first
            | (with_reducible refine and_same ?_)
            | ((with_reducible apply Br.no) ; (focus omega))
            ))
            )
          all_goals (conv => whnf)
          all_goals (try dsimp only)
          refine Equal_call _ b (by rw [hWl]; omega) (by omega) (Looks.ownbs hy) (Looks.bs _ _ _) fun σ4 hg4 => ?_
          replace hx := hx.keepN hg4
          by_cases hW : wrL pages ((b.length / 128 : Nat) : Int) (rdK b (b.length / 128)) = b
          · have hB : rdB pages b = true := decide_eq_true ⟨h128, h13, hE, hW⟩
            have hL : rdL pages b = rdK b (b.length / 128) := by rw [rdL, hB]; rfl
            rw [decide_eq_true hW, hB, hL]
            repeat' (first
              | ((with_reducible refine Side.intro ?_) <;> (first
              | (simp only [List.append_nil, List.nil_append, List.map_nil]; first | exact List.nodup_nil | exact nodup_bid1 _ | exact nodup_bid2 (by assumption))
              | ((first | refine fresh_tup ?_ | skip); (repeat (first | exact fresh_bk _ |  exact FreshA.sl _ _ FreshA_bs | exact FreshA.sl _ _ FreshA_is | exact FreshA.nils | exact FreshA.nilp | exact FreshA.int _ _ | exact FreshA.bool _ | exact FreshA.str _ | exact fresh_nil | refine fresh_cons ?_ ?_ | with_reducible refine fresh_aggR ?_ | with_reducible refine fresh_agg ?_ | with_reducible exact fresh_nilA | with_reducible refine fresh_consA ?_ ?_)); done)
              ))
              | ((conv => whnf) <;> (first
              | (with_reducible refine and_side ?_ ?_)
              | ((with_reducible apply NOut.own) ; (focus assumption))
              | (with_reducible refine NOut.lit ?_)
              ))
              )
            all_goals (conv => whnf)
            all_goals (try dsimp only)
            exact ret_same rfl
          · have hB : rdB pages b = false := decide_eq_false fun q => hW q.2.2.2
            have hL : rdL pages b = [] := by rw [rdL, hB]; rfl
            rw [decide_eq_false hW, hB, hL]
            repeat' (first
              | ((with_reducible refine Side.intro ?_) <;> (first
              | (simp only [List.append_nil, List.nil_append, List.map_nil]; first | exact List.nodup_nil | exact nodup_bid1 _ | exact nodup_bid2 (by assumption))
              | ((first | refine fresh_tup ?_ | skip); (repeat (first | exact fresh_bk _ |  exact FreshA.sl _ _ FreshA_bs | exact FreshA.sl _ _ FreshA_is | exact FreshA.nils | exact FreshA.nilp | exact FreshA.int _ _ | exact FreshA.bool _ | exact FreshA.str _ | exact fresh_nil | refine fresh_cons ?_ ?_ | with_reducible refine fresh_aggR ?_ | with_reducible refine fresh_agg ?_ | with_reducible exact fresh_nilA | with_reducible refine fresh_consA ?_ ?_)); done)
              ))
              | ((conv => whnf) <;> (first
              | (with_reducible refine and_side ?_ ?_)
              | (with_reducible refine NOut.lit ?_)
              ))
              )
            all_goals (conv => whnf)
            all_goals (try dsimp only)
            exact ret_nilt rfl
        · have hB : rdB pages b = false := decide_eq_false fun q => hE q.2.2.1
          have hL : rdL pages b = [] := by rw [rdL, hB]; rfl
          rw [hB, hL]
          repeat' (first
            | ((with_reducible refine Side.intro ?_) <;> (first
            | (simp only [List.append_nil, List.nil_append, List.map_nil]; first | exact List.nodup_nil | exact nodup_bid1 _ | exact nodup_bid2 (by assumption))
            | ((first | refine fresh_tup ?_ | skip); (repeat (first | exact fresh_bk _ |  exact FreshA.sl _ _ FreshA_bs | exact FreshA.sl _ _ FreshA_is | exact FreshA.nils | exact FreshA.nilp | exact FreshA.int _ _ | exact FreshA.bool _ | exact FreshA.str _ | exact fresh_nil | refine fresh_cons ?_ ?_ | with_reducible refine fresh_aggR ?_ | with_reducible refine fresh_agg ?_ | with_reducible exact fresh_nilA | with_reducible refine fresh_consA ?_ ?_)); done)
            ))
            | ((conv => whnf) <;> (first
            | (with_reducible refine and_same ?_)
            | (with_reducible refine and_side ?_ ?_)
            | ((with_reducible apply Br.yes) ; (focus omega))
            | (with_reducible refine NOut.lit ?_)
            ))
            )
          all_goals (conv => whnf)
          all_goals (try dsimp only)
          all_goals exact ret_nilt rfl
    · have hB : rdB pages b = false := decide_eq_false fun q => h13 q.2.1
      have hL : rdL pages b = [] := by rw [rdL, hB]; rfl
      rw [hB, hL]
      repeat' (first
        | ((with_reducible refine Side.intro ?_) <;> (first
        | (simp only [List.append_nil, List.nil_append, List.map_nil]; first | exact List.nodup_nil | exact nodup_bid1 _ | exact nodup_bid2 (by assumption))
        | ((first | refine fresh_tup ?_ | skip); (repeat (first | exact fresh_bk _ |  exact FreshA.sl _ _ FreshA_bs | exact FreshA.sl _ _ FreshA_is | exact FreshA.nils | exact FreshA.nilp | exact FreshA.int _ _ | exact FreshA.bool _ | exact FreshA.str _ | exact fresh_nil | refine fresh_cons ?_ ?_ | with_reducible refine fresh_aggR ?_ | with_reducible refine fresh_agg ?_ | with_reducible exact fresh_nilA | with_reducible refine fresh_consA ?_ ?_)); done)
        ))
        | ((conv => whnf) <;> (first
        | (with_reducible refine and_same ?_)
        | (with_reducible refine and_side ?_ ?_)
        | ((with_reducible apply Br.yes) ; (focus omega))
        | (with_reducible refine NOut.lit ?_)
        ))
        )
      all_goals (conv => whnf)
      all_goals (try dsimp only)
      all_goals exact ret_nilt rfl
  · have hB : rdB pages b = false := decide_eq_false fun q => h128 q.1
    have hL : rdL pages b = [] := by rw [rdL, hB]; rfl
    rw [hB, hL]
    repeat' (first
      | ((with_reducible refine Side.intro ?_) <;> (first
      | omega
      | (simp only [List.append_nil, List.nil_append, List.map_nil]; first | exact List.nodup_nil | exact nodup_bid1 _ | exact nodup_bid2 (by assumption))
      | ((first | refine fresh_tup ?_ | skip); (repeat (first | exact fresh_bk _ |  exact FreshA.sl _ _ FreshA_bs | exact FreshA.sl _ _ FreshA_is | exact FreshA.nils | exact FreshA.nilp | exact FreshA.int _ _ | exact FreshA.bool _ | exact FreshA.str _ | exact fresh_nil | refine fresh_cons ?_ ?_ | with_reducible refine fresh_aggR ?_ | with_reducible refine fresh_agg ?_ | with_reducible exact fresh_nilA | with_reducible refine fresh_consA ?_ ?_)); done)
      ))
      | ((conv => whnf) <;> (first
      | (with_reducible refine and_same ?_)
      | (with_reducible refine and_side ?_ ?_)
      | ((with_reducible apply Br.yes) ; (focus omega))
      | (with_reducible refine NOut.lit ?_)
      | (with_reducible refine lenR_sl ?_)
      ))
      )
    all_goals (conv => whnf)
    all_goals (try dsimp only)
    all_goals exact ret_nilt rfl
end Go.Proofs.Ythalikgchafjiaa

namespace Go.Proofs.Ythalikgchafjiaa
open Go Go.Proofs.Ythalikgchafjiaa.V
set_option maxRecDepth 20000
attribute [local irreducible] CallS AOK AOKn ALoop Side Ref.ok
/-! The document's reading. -/
theorem ndB_len {b : List UInt8} {k : Nat} (h : 128 * k + 128 ≤ b.length) : (ndB b k).length = 128 := by
  simp only [ndB, List.length_drop, List.length_take]; omega
theorem wd_nd {b : List UInt8} {k j : Nat} (hj : j < 16) : wd (ndB b k) j = wd b (16 * k + j) := by
  unfold wd ndB
  rw [List.drop_take, List.drop_take, List.take_take, List.drop_drop]
  congr 1
  · omega
  · congr 1; omega
theorem getV_nd {b : List UInt8} {k : Nat} {j : Int} (h : 128 * k + 128 ≤ b.length) (h0 : 0 ≤ j) (h1 : j < 16) : getV b (16 * (k : Int) + j) = getV (ndB b k) j := by
  have e : getOk b (16 * (k : Int) + j) = getOk (ndB b k) j := by
    have e1 : inR b (16 * (k : Int) + j) = true := by simp only [inR, decide_eq_true_eq]; omega
    have e2 : inR (ndB b k) j = true := by simp only [inR, decide_eq_true_eq, ndB_len h]; omega
    rw [getOk, getOk, e1, e2, wd_nd (by omega), show (16 * (k : Int) + j).toNat = 16 * k + j.toNat from by omega]
  rw [getV, getV, e, wd_nd (by omega), show (16 * (k : Int) + j).toNat = 16 * k + j.toNat from by omega]
attribute [local irreducible] gtV gtP gtN rdK
theorem RRead_ok (pages : Int) (b : List UInt8) (hb : b.length ≤ 4611686018427) : AOKn Try.prog F.joistref14_Read [.int .i64 pages, .sl 1 (bs b) false] fun y => y = .tup [.sl 3 (bk (rdL pages b)) true, .bool (rdB pages b)] := by
  have hn := bs_length b
  have hE0 : wrE pages ((b.length / 128 : Nat) : Int) (rdK b (b.length / 128)) = 0 → 1 ≤ b.length / 128 ∧ 0 ≤ pages ∧ pages ≤ 64 := fun h => by
    obtain ⟨h1, h2, h3⟩ := wrE_ok h
    obtain ⟨h4, h5, _⟩ := rt_bd h1
    have : 1 ≤ ndN (rdK b (b.length / 128)).length := by have := hol1_pos (rdK b (b.length / 128)).length; unfold ndN; omega
    omega
  refine AOKn.by_steps mixed fc_joistref14_Read_ok (by simp [fc_joistref14_Read]) ?_
  by_cases hg : b.length % 128 = 0 ∧ 1 ≤ b.length / 128 ∧ b.length / 128 ≤ 13 ∧ 0 ≤ pages ∧ pages ≤ 64
  · obtain ⟨h128, hr1, h13, hp0, hp1⟩ := hg
    repeat' (first
      | ((with_reducible refine Side.intro ?_) <;> (first
      | omega
      ))
      | ((conv => whnf) <;> (first
      | (with_reducible refine and_same ?_)
      | (with_reducible refine and_side ?_ ?_)
      | ((with_reducible apply Br.yes) ; (focus omega))
      | ((with_reducible apply Br.no) ; (focus omega))
      | (with_reducible refine lenR_sl ?_)
      ))
      )
    all_goals (conv => whnf)
    all_goals (try dsimp only)
    refine call_one (RNodes_ok _ (by omega)) (.cons (Looks.int _ _ _) .nil) rfl fun σ1 hg1 => ?_
    rw [ndN_64]
    repeat' (first
      | ((conv => whnf) <;> (first
      | (with_reducible refine and_same ?_)
      | ((with_reducible apply Br.no) ; (focus omega))
      ))
      )
    all_goals (conv => whnf)
    all_goals (try dsimp only)
    refine loop_at (α := Nat × AH × AV) (fun a => [(7, a.2.2), (8, .int .i64 a.1)]) (fun a => a.2.1) (fun a => a.1 ≤ b.length / 128 ∧ Own a.2.1 3 a.2.2 (bk (rdK b a.1))) (fun a => b.length / 128 - a.1) (0, σ1, .nils) ⟨by omega, by dsimp only; rw [rdK_zero]; exact Own.nil _ _⟩ rfl rfl ?_
    rintro ⟨k, σ2, x⟩ ⟨hk, hx⟩
    dsimp only at hk hx ⊢
    have hrl := rdK_len b k
    by_cases hkt : k < b.length / 128
    · have hgl := gtN_le b k
      have hH : getV b (16 * (k : Int)) = gtH b k := by
        have := getV_nd (b := b) (k := k) (j := 0) (by omega) (by omega) (by omega)
        rw [Int.add_zero] at this
        exact this
      have hHb := getV_bd8 b (16 * (k : Int))
      have hNd : gtN b k = min (gtH b k / 2) 7 := by unfold gtN; rfl
      repeat' (first
        | ((conv => whnf) <;> (first
        | (with_reducible refine and_same ?_)
        | ((with_reducible apply Br.yes) ; (focus omega))
        ))
        )
      all_goals (conv => whnf)
      all_goals (try dsimp only)
      refine call_two (ref_Get_ok b (16 * (k : Int)) hb) (.cons (Looks.bs _ _ _) (.cons (Looks.int _ _ _) .nil)) rfl rfl fun σ3 hg3 => ?_
      replace hx := hx.keepN hg3
      rw [hH] at hHb ⊢
      have hHi : (0 : Int) ≤ ((gtH b k : Nat) : Int) ∧ ((gtH b k : Nat) : Int) < 4611686018427387904 := ⟨Int.natCast_nonneg _, Int.ofNat_lt.2 hHb⟩
      clear hHb
      skip
      all_goals (conv => whnf)
      all_goals (try dsimp only)
      refine loop_at (α := Nat × AH × AV) (fun a => [(7, a.2.2), (11, .int .i64 a.1)]) (fun a => a.2.1) (fun a => a.1 ≤ (if gtH b k % 2 = 1 then gtN b k else 0) ∧ Own a.2.1 3 a.2.2 (bk (rdK b k ++ rdN b k a.1))) (fun a => (if gtH b k % 2 = 1 then gtN b k else 0) - a.1) (0, _, x) ⟨Nat.zero_le _, ?_⟩ rfl rfl ?_
      · have e0 : rdN b k 0 = [] := List.length_eq_zero_iff.1 (Nat.le_zero.1 (rdN_len b k 0))
        dsimp only
        rw [e0, List.append_nil]
        exact hx
      rintro ⟨j, σ4, x4⟩ ⟨hj, hx4⟩
      dsimp only at hj hx4 ⊢
      by_cases hpar : gtH b k % 2 = 1
      · rw [if_pos hpar] at hj ⊢
        have hN : ∀ m, rdN b k m = (gtP b k m).map exO := fun m => by rw [rdN, if_pos hpar]
        generalize gtH b k = H at *
        by_cases hjt : j < gtN b k
        · have hsn : rdN b k (j + 1) = rdN b k j ++ [exO (((getV (ndB b k) (1 + 2 * (j : Int)) : Nat) : Int), ((getV (ndB b k) (2 + 2 * (j : Int)) : Nat) : Int))] := by
            rw [hN, hN, gtP_succ, List.map_append]
            rfl
          have hll : (bk (rdK b k ++ rdN b k j)).length ≤ 98 := by
            have := rdN_len b k j
            rw [bk_length, List.length_append]
            omega
          have g1 : getV b (16 * (k : Int) + 1 + 2 * j) = getV (ndB b k) (1 + 2 * (j : Int)) := by rw [← getV_nd (b := b) (k := k) (j := 1 + 2 * (j : Int)) (by omega) (by omega) (by omega)]; congr 1; omega
          have g2 : getV b (16 * (k : Int) + 2 + 2 * j) = getV (ndB b k) (2 + 2 * (j : Int)) := by rw [← getV_nd (b := b) (k := k) (j := 2 + 2 * (j : Int)) (by omega) (by omega) (by omega)]; congr 1; omega
          have hb2 := getV_bd8 (ndB b k) (2 + 2 * (j : Int))
          have hb3 : (0 : Int) ≤ ((getV (ndB b k) (2 + 2 * (j : Int)) : Nat) : Int) ∧ ((getV (ndB b k) (2 + 2 * (j : Int)) : Nat) : Int) < 4611686018427387904 := ⟨Int.natCast_nonneg _, Int.ofNat_lt.2 hb2⟩
          clear hb2
          repeat' (first
            | ((with_reducible refine Side.intro ?_) <;> (first
            | omega
            ))
            | ((conv => whnf) <;> (first
            | (with_reducible refine and_same ?_)
            | (with_reducible refine and_side ?_ ?_)
            | ((with_reducible apply Br.yes) ; (focus omega))
            | (with_reducible refine Br.mk (fun _ => ?_) (fun _ => ?_))
            ))
            )
          all_goals (conv => whnf)
          all_goals (try dsimp only)
          all_goals refine call_two (ref_Get_ok b (16 * (k : Int) + 1 + 2 * j) hb) (.cons (Looks.bs _ _ _) (.cons (Looks.int _ _ _) .nil)) rfl rfl fun σ5 hg5 => ?_
          · repeat' (first
              | ((conv => whnf) <;> (first
              | (with_reducible refine and_same ?_)
              | ((with_reducible apply Br.yes) ; (focus omega))
              ))
              )
            all_goals (conv => whnf)
            all_goals (try dsimp only)
            refine call_two (ref_Get_ok b (16 * (k : Int) + 2 + 2 * j) hb) (.cons (Looks.bs _ _ _) (.cons (Looks.int _ _ _) .nil)) rfl rfl fun σ6 hg6 => ?_
            rw [g1, g2]
            have hx6 := hx4.keepN (Gr.trans hg5 hg6)
            repeat' (first
              | ((with_reducible refine Side.intro ?_) <;> (first
              | omega
              | exact Nat.le_of_ble_eq_true rfl
              | exact rfl
              ))
              | ((conv => whnf) <;> (first
              | (with_reducible refine and_same ?_)
              | (with_reducible refine and_side ?_ ?_)
              | ((with_reducible apply Br.yes) ; (focus omega))
              | ((with_reducible apply blkAt_step) ; (focus (first
              | ((repeat (first
              | exact get_new
              )); done)
              )) ; (focus (first | rfl | assumption | omega)) ; (focus (first | rfl | assumption)) ; (try dsimp only))
              | (with_reducible refine AppC.frz ?_)
              | (with_reducible refine rowsR_rsl ?_)
              ))
              )
            all_goals (conv => whnf)
            all_goals (try dsimp only)
            refine appendR_own (rows := bk (rdK b k ++ rdN b k j)) (Own.keepN (Gr.append _ _) hx6) (by show (_ + 1) * 24 ≤ _; omega) ?_
            intro x' σ7 ho7 hg7 hb7
            repeat' (first
              | ((conv => whnf) <;> (first
              | (with_reducible refine and_same ?_)
              | ((with_reducible apply Br.yes) ; (focus omega))
              ))
              )
            all_goals (conv => whnf)
            all_goals (try dsimp only)
            refine ⟨(j + 1, σ7, x'), rfl, rfl, ⟨by omega, ?_⟩, by omega⟩
            dsimp only
            rw [hsn, ← List.append_assoc, bk_append]
            exact ho7
          · repeat' (first
              | ((conv => whnf) <;> (first
              | (with_reducible refine and_same ?_)
              | ((with_reducible apply Br.yes) ; (focus omega))
              ))
              )
            all_goals (conv => whnf)
            all_goals (try dsimp only)
            refine call_two (ref_Get_ok b (16 * (k : Int) + 2 + 2 * j) hb) (.cons (Looks.bs _ _ _) (.cons (Looks.int _ _ _) .nil)) rfl rfl fun σ6 hg6 => ?_
            rw [g1, g2]
            have hx6 := hx4.keepN (Gr.trans hg5 hg6)
            repeat' (first
              | ((with_reducible refine Side.intro ?_) <;> (first
              | omega
              | exact Nat.le_of_ble_eq_true rfl
              | exact rfl
              ))
              | ((conv => whnf) <;> (first
              | (with_reducible refine and_same ?_)
              | (with_reducible refine and_side ?_ ?_)
              | ((with_reducible apply Br.yes) ; (focus omega))
              | ((with_reducible apply blkAt_step) ; (focus (first
              | ((repeat (first
              | exact get_new
              )); done)
              )) ; (focus (first | rfl | assumption | omega)) ; (focus (first | rfl | assumption)) ; (try dsimp only))
              | (with_reducible refine AppC.frz ?_)
              | (with_reducible refine rowsR_rsl ?_)
              ))
              )
            all_goals (conv => whnf)
            all_goals (try dsimp only)
            refine appendR_own (rows := bk (rdK b k ++ rdN b k j)) (Own.keepN (Gr.append _ _) hx6) (by show (_ + 1) * 24 ≤ _; omega) ?_
            intro x' σ7 ho7 hg7 hb7
            repeat' (first
              | ((conv => whnf) <;> (first
              | (with_reducible refine and_same ?_)
              | ((with_reducible apply Br.yes) ; (focus omega))
              ))
              )
            all_goals (conv => whnf)
            all_goals (try dsimp only)
            refine ⟨(j + 1, σ7, x'), rfl, rfl, ⟨by omega, ?_⟩, by omega⟩
            dsimp only
            rw [hsn, ← List.append_assoc, bk_append]
            exact ho7
        · have hjE : j = gtN b k := by omega
          repeat' (first
            | ((with_reducible refine Side.intro ?_) <;> (first
            | omega
            ))
            | ((conv => whnf) <;> (first
            | (with_reducible refine and_same ?_)
            | (with_reducible refine and_side ?_ ?_)
            | ((with_reducible apply Br.yes) ; (focus omega))
            | ((with_reducible apply Br.no) ; (focus omega))
            | (with_reducible refine Br.mk (fun _ => ?_) (fun _ => ?_))
            ))
            )
          all_goals (conv => whnf)
          all_goals (try dsimp only)
          all_goals exact ⟨(k + 1, σ4, x4), rfl, rfl, ⟨by omega, by dsimp only; rw [rdK_succ, ← hjE]; exact hx4⟩, by omega⟩
      · rw [if_neg hpar] at hj ⊢
        have hN : rdN b k (gtN b k) = [] := by rw [rdN, if_neg hpar]
        have hj0 : j = 0 := by omega
        subst hj0
        have e0 : rdN b k 0 = [] := List.length_eq_zero_iff.1 (Nat.le_zero.1 (rdN_len b k 0))
        rw [e0, List.append_nil] at hx4
        generalize gtH b k = H at *
        repeat' (first
          | ((with_reducible refine Side.intro ?_) <;> (first
          | omega
          ))
          | ((conv => whnf) <;> (first
          | (with_reducible refine and_same ?_)
          | (with_reducible refine and_side ?_ ?_)
          | ((with_reducible apply Br.yes) ; (focus omega))
          | ((with_reducible apply Br.no) ; (focus omega))
          | (with_reducible refine Br.mk (fun _ => ?_) (fun _ => ?_))
          ))
          )
        all_goals (conv => whnf)
        all_goals (try dsimp only)
        all_goals exact ⟨(k + 1, σ4, x4), rfl, rfl, ⟨by omega, by dsimp only; rw [rdK_succ, hN, List.append_nil]; exact hx4⟩, by omega⟩
    · have hkE : k = b.length / 128 := by omega
      subst hkE
      repeat' (first
        | ((conv => whnf) <;> (first
        | (with_reducible refine and_same ?_)
        | ((with_reducible apply Br.no) ; (focus omega))
        ))
        )
      all_goals (conv => whnf)
      all_goals (try dsimp only)
      refine call_sl1 (RWrite_ok pages ((b.length / 128 : Nat) : Int) (rdK b (b.length / 128)) (by omega)) (.cons (Looks.int _ _ _) (.cons (.same (by rw [hn]; rfl)) (.cons (Looks.ownbk hx) .nil))) rfl fun σ3 y hg3 hy hny => ?_
      replace hx := hx.keepN hg3
      by_cases hE : wrE pages ((b.length / 128 : Nat) : Int) (rdK b (b.length / 128)) = 0
      · rw [hE]
        by_cases hW : wrL pages ((b.length / 128 : Nat) : Int) (rdK b (b.length / 128)) = b
        · have hB : rdB pages b = true := decide_eq_true ⟨h128, h13, hE, hW⟩
          have hL : rdL pages b = rdK b (b.length / 128) := by rw [rdL, hB]; rfl
          rw [hW] at hy
          have hnn : ¬ b ≠ b := fun h => h rfl
          rw [hB, hL]
          repeat' (first
            | ((with_reducible refine Side.intro ?_) <;> (first
            | (simp only [List.append_nil, List.nil_append, List.map_nil]; first | exact List.nodup_nil | exact nodup_bid1 _ | exact nodup_bid2 (by assumption))
            | ((first | refine fresh_tup ?_ | skip); (repeat (first | exact fresh_bk _ |  exact FreshA.sl _ _ FreshA_bs | exact FreshA.sl _ _ FreshA_is | exact FreshA.nils | exact FreshA.nilp | exact FreshA.int _ _ | exact FreshA.bool _ | exact FreshA.str _ | exact fresh_nil | refine fresh_cons ?_ ?_ | with_reducible refine fresh_aggR ?_ | with_reducible refine fresh_agg ?_ | with_reducible exact fresh_nilA | with_reducible refine fresh_consA ?_ ?_)); done)
            ))
            | ((conv => whnf) <;> (first
            | (with_reducible refine and_same ?_)
            | (with_reducible refine and_side ?_ ?_)
            | ((with_reducible apply Br.no) ; (focus omega))
            | ((with_reducible apply rowsR_own) ; (focus assumption))
            | ((with_reducible apply NOut.own) ; (focus assumption))
            | (with_reducible refine NOut.lit ?_)
            | (with_reducible refine rowsR_sl ?_)
            | ((with_reducible apply bytesR_intro) ; (focus (first | rfl | (simp only [bs_take, bs_drop, bs_append]; rfl))))
            ))
            )
          all_goals (conv => whnf)
          all_goals (try dsimp only)
          all_goals exact ret_same rfl
        · have hB : rdB pages b = false := decide_eq_false fun q => hW q.2.2.2
          have hL : rdL pages b = [] := by rw [rdL, hB]; rfl
          have hnn : wrL pages ((b.length / 128 : Nat) : Int) (rdK b (b.length / 128)) ≠ b := hW
          rw [hB, hL]
          repeat' (first
            | ((with_reducible refine Side.intro ?_) <;> (first
            | (simp only [List.append_nil, List.nil_append, List.map_nil]; first | exact List.nodup_nil | exact nodup_bid1 _ | exact nodup_bid2 (by assumption))
            | ((first | refine fresh_tup ?_ | skip); (repeat (first | exact fresh_bk _ |  exact FreshA.sl _ _ FreshA_bs | exact FreshA.sl _ _ FreshA_is | exact FreshA.nils | exact FreshA.nilp | exact FreshA.int _ _ | exact FreshA.bool _ | exact FreshA.str _ | exact fresh_nil | refine fresh_cons ?_ ?_ | with_reducible refine fresh_aggR ?_ | with_reducible refine fresh_agg ?_ | with_reducible exact fresh_nilA | with_reducible refine fresh_consA ?_ ?_)); done)
            ))
            | ((conv => whnf) <;> (first
            | (with_reducible refine and_same ?_)
            | (with_reducible refine and_side ?_ ?_)
            | ((with_reducible apply Br.yes) ; (focus omega))
            | ((with_reducible apply Br.no) ; (focus omega))
            | ((with_reducible apply rowsR_own) ; (focus assumption))
            | (with_reducible refine NOut.lit ?_)
            | (with_reducible refine rowsR_sl ?_)
            | ((with_reducible apply bytesR_intro) ; (focus (first | rfl | (simp only [bs_take, bs_drop, bs_append]; rfl))))
            ))
            )
          all_goals (conv => whnf)
          all_goals (try dsimp only)
          all_goals exact ret_nilt rfl
      · have hB : rdB pages b = false := decide_eq_false fun q => hE q.2.2.1
        have hL : rdL pages b = [] := by rw [rdL, hB]; rfl
        rw [hB, hL]
        repeat' (first
          | ((with_reducible refine Side.intro ?_) <;> (first
          | (simp only [List.append_nil, List.nil_append, List.map_nil]; first | exact List.nodup_nil | exact nodup_bid1 _ | exact nodup_bid2 (by assumption))
          | ((first | refine fresh_tup ?_ | skip); (repeat (first | exact fresh_bk _ |  exact FreshA.sl _ _ FreshA_bs | exact FreshA.sl _ _ FreshA_is | exact FreshA.nils | exact FreshA.nilp | exact FreshA.int _ _ | exact FreshA.bool _ | exact FreshA.str _ | exact fresh_nil | refine fresh_cons ?_ ?_ | with_reducible refine fresh_aggR ?_ | with_reducible refine fresh_agg ?_ | with_reducible exact fresh_nilA | with_reducible refine fresh_consA ?_ ?_)); done)
          ))
          | ((conv => whnf) <;> (first
          | (with_reducible refine and_same ?_)
          | (with_reducible refine and_side ?_ ?_)
          | ((with_reducible apply Br.yes) ; (focus omega))
          | (with_reducible refine NOut.lit ?_)
          ))
          )
        all_goals (conv => whnf)
        all_goals (try dsimp only)
        all_goals exact ret_nilt rfl
  · have hB : rdB pages b = false := decide_eq_false fun q => hg ⟨q.1, (hE0 q.2.2.1).1, q.2.1, (hE0 q.2.2.1).2⟩
    have hL : rdL pages b = [] := by rw [rdL, hB]; rfl
    rw [hB, hL]
    repeat' (first
      | ((with_reducible refine Side.intro ?_) <;> (first
      | omega
      | (simp only [List.append_nil, List.nil_append, List.map_nil]; first | exact List.nodup_nil | exact nodup_bid1 _ | exact nodup_bid2 (by assumption))
      | ((first | refine fresh_tup ?_ | skip); (repeat (first | exact fresh_bk _ |  exact FreshA.sl _ _ FreshA_bs | exact FreshA.sl _ _ FreshA_is | exact FreshA.nils | exact FreshA.nilp | exact FreshA.int _ _ | exact FreshA.bool _ | exact FreshA.str _ | exact fresh_nil | refine fresh_cons ?_ ?_ | with_reducible refine fresh_aggR ?_ | with_reducible refine fresh_agg ?_ | with_reducible exact fresh_nilA | with_reducible refine fresh_consA ?_ ?_)); done)
      ))
      | ((conv => whnf) <;> (first
      | (with_reducible refine and_same ?_)
      | (with_reducible refine and_side ?_ ?_)
      | ((with_reducible apply Br.yes) ; (focus omega))
      | (with_reducible refine Br.mk (fun _ => ?_) (fun _ => ?_))
      | (with_reducible refine NOut.lit ?_)
      | (with_reducible refine lenR_sl ?_)
      ))
      )
    all_goals (conv => whnf)
    all_goals (try dsimp only)
    all_goals first
      | exact ret_nilt rfl
      | skip
    all_goals refine call_one (RNodes_ok _ (by omega)) (.cons (Looks.int _ _ _) .nil) rfl fun σ1 hg1 => ?_
    all_goals rw [ndN_64]
    · repeat' (first
        | ((with_reducible refine Side.intro ?_) <;> (first
        | (simp only [List.append_nil, List.nil_append, List.map_nil]; first | exact List.nodup_nil | exact nodup_bid1 _ | exact nodup_bid2 (by assumption))
        | ((first | refine fresh_tup ?_ | skip); (repeat (first | exact fresh_bk _ |  exact FreshA.sl _ _ FreshA_bs | exact FreshA.sl _ _ FreshA_is | exact FreshA.nils | exact FreshA.nilp | exact FreshA.int _ _ | exact FreshA.bool _ | exact FreshA.str _ | exact fresh_nil | refine fresh_cons ?_ ?_ | with_reducible refine fresh_aggR ?_ | with_reducible refine fresh_agg ?_ | with_reducible exact fresh_nilA | with_reducible refine fresh_consA ?_ ?_)); done)
        ))
        | ((conv => whnf) <;> (first
        | (with_reducible refine and_same ?_)
        | (with_reducible refine and_side ?_ ?_)
        | ((with_reducible apply Br.yes) ; (focus omega))
        | (with_reducible refine Br.mk (fun _ => ?_) (fun _ => ?_))
        | (with_reducible refine NOut.lit ?_)
        ))
        )
      all_goals (conv => whnf)
      all_goals (try dsimp only)
      all_goals first
        | exact ret_nilt rfl
        | (exfalso; omega)
end Go.Proofs.Ythalikgchafjiaa

namespace Go.Proofs.Ythalikgchafjiaa
open Go Go.Proofs.Ythalikgchafjiaa.V
theorem okW_le (n : Nat) (h : n < 4611686018427387904) : okW (le 8 n) = true := by
  unfold okW
  rw [List.getD_eq_getElem?_getD, le_get 8 n 7 (by omega), Option.getD_some, UInt8.toNat_ofNat']
  have : n / 256 ^ 7 < 64 := by
    rw [Nat.div_lt_iff_lt_mul (by decide)]
    exact Nat.lt_of_lt_of_le h (by decide)
  exact decide_eq_true (by omega)
theorem val_le8 (n : Nat) (h : n < 4611686018427387904) : val (le 8 n) = n := by
  rw [val_le]
  exact Nat.mod_eq_of_lt (Nat.lt_of_lt_of_le h (by decide))
theorem wd_cat : ∀ (l : List Int) (i : Nat) (n : Int), l[i]? = some n → wd (cat l) i = le 8 n.toNat
  | n :: l, 0, m, h => by
    cases h
    have : cat (n :: l) = le 8 n.toNat ++ cat l := rfl
    unfold wd
    rw [this, Nat.zero_mul, List.drop_zero, List.take_append_of_le_length (by rw [le_length]; exact Nat.le_refl _), List.take_of_length_le (by rw [le_length]; exact Nat.le_refl _)]
  | n :: l, i + 1, m, h => by
    have : cat (n :: l) = le 8 n.toNat ++ cat l := rfl
    have ih := wd_cat l i m (by simpa using h)
    unfold wd at ih ⊢
    rw [this, List.drop_append, List.drop_of_length_le (by rw [le_length]; omega), List.nil_append, le_length, show (i + 1) * 8 - 8 = i * 8 from by omega]
    exact ih
theorem may_le {n : Int} (h : mayW n = true) : okW (le 8 n.toNat) = true ∧ (val (le 8 n.toNat) : Int) = n := by
  have : 0 ≤ n ∧ n ≤ 4611686018427387903 := by simpa [mayW] using h
  refine ⟨okW_le _ (by omega), ?_⟩
  rw [val_le8 _ (by omega)]; omega
theorem all_cat {l : List Int} (h : l.all mayW = true) : allOk (cat l) = true ∧ allR (cat l) = l := by
  have e8 : (cat l).length / 8 = l.length := by rw [cat_length]; omega
  have hw : ∀ i, i < l.length → ∃ n, l[i]? = some n ∧ wd (cat l) i = le 8 n.toNat ∧ mayW n = true := fun i hi =>
    ⟨l[i], List.getElem?_eq_getElem hi, wd_cat _ _ _ (List.getElem?_eq_getElem hi), List.all_eq_true.1 h _ (List.getElem_mem hi)⟩
  have h1 : allOk (cat l) = true := by
    simp only [allOk, Bool.and_eq_true, decide_eq_true_eq, List.all_eq_true, List.mem_range]
    refine ⟨by rw [cat_length]; omega, fun i hi => ?_⟩
    obtain ⟨n, _, k2, k3⟩ := hw i (by omega)
    rw [k2]; exact (may_le k3).1
  refine ⟨h1, ?_⟩
  rw [allR, h1, if_pos rfl, e8]
  apply List.ext_getElem?
  intro i
  by_cases hi : i < l.length
  · obtain ⟨n, k1, k2, k3⟩ := hw i hi
    simp [vals, hi, k2, (may_le k3).2]
    rw [List.getElem?_eq_getElem hi] at k1
    exact (Option.some.inj k1).symm
  · rw [List.getElem?_eq_none (by simp [vals]; omega), List.getElem?_eq_none (by omega)]
theorem okW_val {w : List UInt8} (hl : w.length = 8) (h : okW w = true) : val w < 4611686018427387904 := by
  have := val_top w 7 hl (by simpa [okW] using h)
  exact this
theorem cat_cons (n : Int) (l : List Int) : cat (n :: l) = le 8 n.toNat ++ cat l := rfl
theorem cat_vals (s : List UInt8) (h : allOk s = true) : (allR s).all mayW = true ∧ cat (allR s) = s := by
  have h0 := h
  simp only [allOk, Bool.and_eq_true, decide_eq_true_eq, List.all_eq_true, List.mem_range] at h
  obtain ⟨h8, hall⟩ := h
  rw [allR, h0, if_pos rfl]
  refine ⟨?_, ?_⟩
  · rw [List.all_eq_true]
    intro n hn
    simp only [vals, List.mem_map, List.mem_range] at hn
    obtain ⟨i, hi, rfl⟩ := hn
    have := okW_val (wd_length hi) (hall i hi)
    simp only [mayW, decide_eq_true_eq]; omega
  · have key : ∀ k, k ≤ s.length / 8 → cat (vals s k) = s.take (k * 8) := by
      intro k
      induction k with
      | zero => intro _; simp [vals, cat]
      | succ k ih =>
        intro hk
        have ev : vals s (k + 1) = vals s k ++ [(val (wd s k) : Int)] := by simp [vals, List.range_succ]
        have hl := wd_length (s := s) (i := k) (by omega)
        have el : le 8 (val (wd s k)) = wd s k := by rw [← hl]; exact le_val _
        rw [ev, cat_append, ih (by omega), cat_one, Int.toNat_natCast, el]
        unfold wd
        rw [show (k + 1) * 8 = k * 8 + 8 from by omega, List.take_add]
    rw [key _ (Nat.le_refl _), List.take_of_length_le (by omega)]
end Go.Proofs.Ythalikgchafjiaa

namespace Go.Proofs.Ythalikgchafjiaa
open Go Go.Proofs.Ythalikgchafjiaa.V
/-! Nodes in what is written: plain. -/
theorem ndB_mid {X Y Z : List UInt8} {k : Nat} (hX : X.length = 128 * k) (hY : Y.length = 128) : ndB (X ++ (Y ++ Z)) k = Y := by
  unfold ndB
  rw [List.take_append, List.take_of_length_le (by omega), List.drop_append, List.drop_of_length_le (by omega), List.nil_append, hX]
  rw [show 128 * k - 128 * k = 0 from by omega, List.drop_zero, List.take_append, show 128 * k + 128 - 128 * k = 128 from by omega, List.take_of_length_le (by omega), hY]
  simp
theorem lvB_split (leaf : Bool) (ps : List (Int × Int)) (sh : Int) {i h : Nat} (hi : i < h) : ∃ Z, lvB leaf ps sh h = lvB leaf ps sh i ++ (nbB leaf ps sh i ++ Z) := by
  induction h with
  | zero => omega
  | succ h ih =>
    rw [lvB_succ]
    by_cases e : i = h
    · subst e; exact ⟨[], by simp⟩
    · obtain ⟨Z, hZ⟩ := ih (by omega)
      exact ⟨Z ++ nbB leaf ps sh h, by rw [hZ]; simp⟩
theorem ndB_at {R A C : List Lv} {leaf : Bool} {ps : List (Int × Int)} {i : Nat} {Z : List UInt8} (hR : R = A ++ (leaf, ps) :: C) (hok : ∀ q, q ∈ R → LvOk 1048576 64 q) (hn : wrN R ≤ 20) (hi : i < hol1 ps.length) :
    ndB (wrG R 0 ++ Z) (wrN A + i) = nbB leaf ps ((wrN A + hol1 ps.length : Nat) : Int) i := by
  have hq := hok (leaf, ps) (by rw [hR]; simp)
  have hnR : wrN R = wrN A + (hol1 ps.length + wrN C) := by rw [hR, wrN_append]; rfl
  have hA := wrG_len (L := A) (b := 0) (fun q hq => hok q (by rw [hR]; simp [hq])) (by omega)
  obtain ⟨Y, hY⟩ := lvB_split leaf ps ((wrN A + hol1 ps.length : Nat) : Int) hi
  have hl := lvB_len (leaf := leaf) (ps := ps) (sh := ((wrN A + hol1 ps.length : Nat) : Int)) i (by omega) (by omega) hq.bd
  have hb := nbB_len (leaf := leaf) (ps := ps) (sh := ((wrN A + hol1 ps.length : Nat) : Int)) i (by omega) (by omega) hq.bd
  have e : wrG R 0 ++ Z = (wrG A 0 ++ lvB leaf ps ((wrN A + hol1 ps.length : Nat) : Int) i) ++ (nbB leaf ps ((wrN A + hol1 ps.length : Nat) : Int) i ++ (Y ++ (wrG C (wrN A + hol1 ps.length) ++ Z))) := by
    rw [hR, wrG_append]
    simp only [wrG, Nat.zero_add]
    rw [hY]
    simp
  rw [e]
  exact ndB_mid (by rw [List.length_append, hA, hl]; omega) hb
theorem getV_ofR {w : List Int} {i : Nat} {n : Int} (hw : w.all mayW = true) (h : w[i]? = some n) : ((getV (ofR w) (i : Int) : Nat) : Int) = n := by
  have hl := (List.getElem?_eq_some_iff.1 h).1
  have hm : mayW n = true := List.all_eq_true.1 hw n (List.mem_of_getElem? h)
  obtain ⟨h1, h2⟩ := may_le hm
  have e : ofR w = cat w := by rw [ofR, if_pos hw]
  have e2 : wd (cat w) i = le 8 n.toNat := wd_cat w i n h
  have e3 : getOk (cat w) (i : Int) = true := by
    rw [getOk, Int.toNat_natCast, e2, h1, Bool.and_true, inR, decide_eq_true_eq, cat_length]
    omega
  rw [e, getV, e3, if_pos rfl, Int.toNat_natCast, e2, h2]
/-- What a node's words tell. -/
structure NodeIs (b : List UInt8) (k : Nat) (leaf : Bool) (sh : Int) (c : List (Int × Int)) : Prop where
  hd : gtH b k = 2 * c.length + (if leaf then 1 else 0)
  n : gtN b k = c.length
  ps : gtP b k c.length = c.map fun p => (p.1, p.2 + sh)
theorem flatP_at {sh : Int} : ∀ {c : List (Int × Int)} {j : Nat} {p : Int × Int}, c[j]? = some p → (flatP sh c)[2 * j]? = some p.1 ∧ (flatP sh c)[2 * j + 1]? = some (p.2 + sh)
  | [], j, p, h => by simp at h
  | q :: c, 0, p, h => by
    cases h
    simp [flatP]
  | q :: c, j + 1, p, h => by
    have h' : c[j]? = some p := by simpa using h
    obtain ⟨h1, h2⟩ := flatP_at (sh := sh) h'
    refine ⟨?_, ?_⟩
    · rw [← h1, show 2 * (j + 1) = 2 * j + 2 from by omega]; simp [flatP]
    · rw [← h2, show 2 * (j + 1) + 1 = (2 * j + 1) + 2 from by omega]; simp [flatP]
theorem node_is {b : List UInt8} {k : Nat} {leaf : Bool} {sh : Int} {c : List (Int × Int)} (hb : ndB b k = ofR (ndW leaf sh c)) (h0 : 0 ≤ sh) (h1 : sh ≤ 1048576) (h7 : c.length ≤ 7) (hp : ∀ p, p ∈ c → (0 ≤ p.1 ∧ p.1 ≤ 1048576) ∧ 0 ≤ p.2 ∧ p.2 ≤ 1048576) : NodeIs b k leaf (if leaf then 0 else sh) c := by
  obtain ⟨hm, hl⟩ := ndW_may (leaf := leaf) h0 h1 h7 hp
  have hw := ndW_eq leaf sh c
  have hH : gtH b k = 2 * c.length + (if leaf then 1 else 0) := by
    have e := getV_ofR (i := 0) (n := 2 * (c.length : Int) + (if leaf then 1 else 0)) hm (by rw [hw]; rfl)
    unfold gtH
    rw [hb]
    have e' : ((getV (ofR (ndW leaf sh c)) 0 : Nat) : Int) = 2 * (c.length : Int) + (if leaf then 1 else 0) := e
    cases leaf <;> simp only [Bool.false_eq_true, if_false, if_true] at e' ⊢ <;> omega
  have hN : gtN b k = c.length := by
    unfold gtN
    rw [hH]
    cases leaf <;> simp only [Bool.false_eq_true, if_false, if_true] <;> omega
  refine ⟨hH, hN, ?_⟩
  apply List.ext_getElem?
  intro j
  by_cases hj : j < c.length
  · have hc : c[j]? = some c[j] := List.getElem?_eq_getElem hj
    obtain ⟨f1, f2⟩ := flatP_at (sh := if leaf then 0 else sh) hc
    have hfl := flatP_length (if leaf then 0 else sh) c
    have w1 : (ndW leaf sh c)[2 * j + 1]? = some c[j].1 := by
      rw [hw, List.getElem?_append_left (by simp only [List.length_cons]; omega), List.getElem?_cons_succ]; exact f1
    have w2 : (ndW leaf sh c)[2 * j + 2]? = some (c[j].2 + (if leaf then 0 else sh)) := by
      rw [hw, List.getElem?_append_left (by simp only [List.length_cons]; omega), show 2 * j + 2 = (2 * j + 1) + 1 from rfl, List.getElem?_cons_succ]; exact f2
    have g1 := getV_ofR hm w1
    have g2 := getV_ofR hm w2
    rw [gtP_get hj, hb, List.getElem?_map, hc, Option.map_some]
    rw [show (1 + 2 * (j : Int)) = ((2 * j + 1 : Nat) : Int) from by omega, show (2 + 2 * (j : Int)) = ((2 * j + 2 : Nat) : Int) from by omega, g1, g2]
  · rw [List.getElem?_eq_none (by rw [gtP_length]; omega), List.getElem?_eq_none (by rw [List.length_map]; omega)]
/-- The node that stands there. -/
theorem node_at {R A C : List Lv} {leaf : Bool} {ps : List (Int × Int)} {i : Nat} {Z : List UInt8} (hR : R = A ++ (leaf, ps) :: C) (hok : ∀ q, q ∈ R → LvOk 1048576 64 q) (hn : wrN R ≤ 20) (hi : i < hol1 ps.length) :
    NodeIs (wrG R 0 ++ Z) (wrN A + i) leaf (if leaf then 0 else ((wrN A + hol1 ps.length : Nat) : Int)) (chk ps i) := by
  have hq := hok (leaf, ps) (by rw [hR]; simp)
  have hnR : wrN R = wrN A + (hol1 ps.length + wrN C) := by rw [hR, wrN_append]; rfl
  exact node_is (ndB_at hR hok hn hi) (by omega) (by omega) (chk_len _ _) fun p hp => hq.bd p (chk_mem hp)
/-! The levels. -/
theorem lvP_tail : ∀ (U : List Lv) {leaf : Bool} {ps : List (Int × Int)} {q : Lv} {V : List Lv}, lvP leaf ps = U ++ q :: V → q :: V = lvP q.1 q.2
  | [], leaf, ps, q, V, h => by
    rw [List.nil_append] at h
    by_cases h1 : 1 < hol1 ps.length
    · rw [lvP_more h1] at h
      cases h
      rw [lvP_more h1]
    · rw [lvP_one h1] at h
      cases h
      rw [lvP_one h1]
  | u :: U, leaf, ps, q, V, h => by
    rw [List.cons_append] at h
    by_cases h1 : 1 < hol1 ps.length
    · rw [lvP_more h1] at h
      exact lvP_tail U (List.cons.inj h).2
    · rw [lvP_one h1] at h
      have := (List.cons.inj h).2
      cases U <;> cases this
theorem lvP_next {q q' : Lv} {V : List Lv} (h : q :: q' :: V = lvP q.1 q.2) : 1 < hol1 q.2.length ∧ q' = (false, upP q.2) := by
  by_cases h1 : 1 < hol1 q.2.length
  · rw [lvP_more h1] at h
    refine ⟨h1, ?_⟩
    have h2 := (List.cons.inj h).2
    by_cases h3 : 1 < hol1 (upP q.2).length
    · rw [lvP_more h3] at h2; exact (List.cons.inj h2).1
    · rw [lvP_one h3] at h2; exact (List.cons.inj h2).1
  · rw [lvP_one h1] at h
    cases (List.cons.inj h).2
theorem lvP_last {q : Lv} (h : [q] = lvP q.1 q.2) : hol1 q.2.length = 1 := by
  by_cases h1 : 1 < hol1 q.2.length
  · rw [lvP_more h1] at h
    have := congrArg List.length h
    simp only [List.length_cons, List.length_nil] at this
    have := (lvP_len (upP q.2) false _ rfl).2
    omega
  · have := hol1_pos q.2.length
    omega
/-- Up to s, first numbers are at most the page. -/
structure Cut (ps : List (Int × Int)) (page : Int) (s : Nat) : Prop where
  lt : s < ps.length
  le : ∀ t p, t ≤ s → ps[t]? = some p → p.1 ≤ page
  gt : ∀ t p, s < t → ps[t]? = some p → page < p.1
theorem Cut.up {ps : List (Int × Int)} {page : Int} {s : Nat} (h : Cut ps page s) : Cut (upP ps) page (s / 7) := by
  have hl := h.lt
  have hh : hol1 ps.length = max 1 ((ps.length + 6) / 7) := rfl
  have key : ∀ t p, (upP ps)[t]? = some p → ∃ p', ps[7 * t]? = some p' ∧ p.1 = p'.1 ∧ 7 * t < ps.length := fun t p hp => by
    have ht : t < hol1 ps.length := by have := (List.getElem?_eq_some_iff.1 hp).1; rwa [upP_length] at this
    rw [upP_get ht] at hp
    have h7 : 7 * t < ps.length := by omega
    rw [List.getElem?_eq_getElem h7] at hp ⊢
    cases hp
    exact ⟨_, rfl, rfl, h7⟩
  refine ⟨by rw [upP_length]; omega, fun t p ht hp => ?_, fun t p ht hp => ?_⟩
  · obtain ⟨p', h1, h2, _⟩ := key t p hp
    rw [h2]
    exact h.le (7 * t) p' (by omega) h1
  · obtain ⟨p', h1, h2, _⟩ := key t p hp
    rw [h2]
    exact h.gt (7 * t) p' (by omega) h1
theorem cut_at : ∀ (U : List Lv) {leaf : Bool} {ps : List (Int × Int)} {page : Int} {s : Nat} {q : Lv} {V : List Lv}, Cut ps page s → lvP leaf ps = U ++ q :: V → Cut q.2 page (s / 7 ^ U.length)
  | [], leaf, ps, page, s, q, V, hc, h => by
    have hq : q = (leaf, ps) := by
      rw [List.nil_append] at h
      by_cases h1 : 1 < hol1 ps.length
      · rw [lvP_more h1] at h; exact (List.cons.inj h).1.symm
      · rw [lvP_one h1] at h; exact (List.cons.inj h).1.symm
    subst hq
    simpa using hc
  | u :: U, leaf, ps, page, s, q, V, hc, h => by
    rw [List.cons_append] at h
    by_cases h1 : 1 < hol1 ps.length
    · rw [lvP_more h1] at h
      have := cut_at U hc.up (List.cons.inj h).2
      rwa [Nat.div_div_eq_div_mul, ← Nat.pow_succ'] at this
    · rw [lvP_one h1] at h
      have := (List.cons.inj h).2
      cases U <;> cases this
end Go.Proofs.Ythalikgchafjiaa

namespace Go.Proofs.Ythalikgchafjiaa
open Go Go.Proofs.Ythalikgchafjiaa.V
/-! What is read and found: plain. -/
def inX (page : Int) (e : Int × Int × Int) : Bool := decide (e.1 ≤ page ∧ page - e.1 < e.2.1)
def fd (l : List (Int × Int × Int)) (page : Int) : Option (Int × Int × Int) := l.find? (inX page)
theorem rtG_lo {pg : Int} : ∀ {l : List (Int × Int × Int)} {at' : Int} {fr : Bool}, rtG pg l at' fr = true → at' ≤ pg ∧ ∀ e, e ∈ l → at' ≤ e.1 ∧ e.1 + e.2.1 ≤ pg
  | [], at', fr, h => by
    simp only [rtG, decide_eq_true_eq] at h
    exact ⟨by omega, by simp⟩
  | x :: l, at', fr, h => by
    simp only [rtG, Bool.and_eq_true, rtOk, decide_eq_true_eq] at h
    obtain ⟨⟨q1, q2, q3, q4, q5, q6, q7⟩, h⟩ := h
    obtain ⟨k1, k2⟩ := rtG_lo h
    refine ⟨by omega, fun e he => ?_⟩
    rcases List.mem_cons.1 he with rfl | he
    · omega
    · have := k2 e he; omega
theorem rtG_find {pg page : Int} : ∀ {l : List (Int × Int × Int)} {at' : Int} {fr : Bool}, rtG pg l at' fr = true → at' ≤ page → page < pg → ∃ (s : Nat) (e : Int × Int × Int), l[s]? = some e ∧ Cut (prL l) page s ∧ fd l page = some e ∧ inX page e = true
  | [], at', fr, h, h0, h1 => by
    simp only [rtG, decide_eq_true_eq] at h
    omega
  | x :: l, at', fr, h, h0, h1 => by
    simp only [rtG, Bool.and_eq_true, rtOk, decide_eq_true_eq] at h
    obtain ⟨⟨q1, q2, q3, q4, q5, q6, q7⟩, h⟩ := h
    by_cases hx : page < at' + x.2.1
    · have hin : inX page x = true := by simp only [inX, decide_eq_true_eq]; omega
      refine ⟨0, x, rfl, ⟨by simp [prL], fun t p ht hp => ?_, fun t p ht hp => ?_⟩, by simp [fd, hin], hin⟩
      · have : t = 0 := by omega
        subst this
        simp only [prL, List.map_cons, List.getElem?_cons_zero, Option.some.injEq] at hp
        subst hp
        dsimp only
        omega
      · cases t with
        | zero => omega
        | succ t =>
          simp only [prL, List.map_cons, List.getElem?_cons_succ, List.getElem?_map] at hp
          obtain ⟨e, he, rfl⟩ := Option.map_eq_some_iff.1 hp
          have := ((rtG_lo h).2 e (List.mem_of_getElem? he)).1
          dsimp only
          omega
    · have hin : inX page x = false := by simp only [inX, decide_eq_false_iff_not]; omega
      obtain ⟨s, e, h2, h3, h4, h5⟩ := rtG_find (page := page) h (by omega) h1
      refine ⟨s + 1, e, by simpa using h2, ⟨?_, fun t p ht hp => ?_, fun t p ht hp => ?_⟩, by simp only [fd, List.find?_cons, hin]; exact h4, h5⟩
      · have := h3.lt
        simp only [prL, List.map_cons, List.length_cons] at this ⊢
        omega
      · cases t with
        | zero =>
          simp only [prL, List.map_cons, List.getElem?_cons_zero, Option.some.injEq] at hp
          subst hp
          dsimp only
          omega
        | succ t => exact h3.le t p (by omega) (by simpa [prL] using hp)
      · cases t with
        | zero => omega
        | succ t => exact h3.gt t p (by omega) (by simpa [prL] using hp)
theorem rt_find {pg page : Int} {l : List (Int × Int × Int)} (h : rt pg l = true) (h0 : 0 ≤ page) (h1 : page < pg) : ∃ (s : Nat) (e : Int × Int × Int), l[s]? = some e ∧ Cut (prL l) page s ∧ fd l page = some e ∧ inX page e = true := by
  simp only [rt, Bool.and_eq_true, decide_eq_true_eq] at h
  exact rtG_find h.2 h0 h1
theorem rt_none {pg page : Int} {l : List (Int × Int × Int)} (h : rt pg l = true) (h0 : page < 0 ∨ pg ≤ page) : fd l page = none := by
  simp only [rt, Bool.and_eq_true, decide_eq_true_eq] at h
  rw [fd, List.find?_eq_none]
  intro e he
  have := (rtG_lo h.2).2 e he
  simp only [inX, decide_eq_true_eq]
  omega
/-! What was written is read. -/
theorem lvP_shape (leaf : Bool) (ps : List (Int × Int)) : ∃ V, lvP leaf ps = (leaf, ps) :: V ∧ ∀ q, q ∈ V → q.1 = false := by
  induction h : ps.length using Nat.strongRecOn generalizing leaf ps with
  | ind n ih =>
    subst h
    by_cases h1 : 1 < hol1 ps.length
    · obtain ⟨V, hV, hf⟩ := ih (upP ps).length (by rw [upP_length]; exact hol1_lt h1) false (upP ps) rfl
      refine ⟨(false, upP ps) :: V, by rw [lvP_more h1, hV], fun q hq => ?_⟩
      rcases List.mem_cons.1 hq with rfl | hq
      · rfl
      · exact hf q hq
    · exact ⟨[], lvP_one h1, by simp⟩
theorem rdN_node {b : List UInt8} {k : Nat} {leaf : Bool} {sh : Int} {c : List (Int × Int)} (h : NodeIs b k leaf sh c) : rdN b k (gtN b k) = if leaf then (c.map fun p => (p.1, p.2 + sh)).map exO else [] := by
  rw [rdN, h.hd, h.n, h.ps]
  cases leaf
  · rw [if_neg (by simp)]; rfl
  · rw [if_pos (by simp)]; rfl
theorem rdK_add (b : List UInt8) (k m : Nat) : rdK b (k + m) = rdK b k ++ ((List.range m).map fun i => rdN b (k + i) (gtN b (k + i))).flatten := by
  induction m with
  | zero => simp
  | succ m ih => rw [← Nat.add_assoc, rdK_succ, ih, List.range_succ]; simp
theorem rdK_inner {R : List Lv} {Z : List UInt8} (hok : ∀ q, q ∈ R → LvOk 1048576 64 q) (hn : wrN R ≤ 20) : ∀ (A C : List Lv), R = A ++ C → (∀ q, q ∈ A → q.1 = false) → rdK (wrG R 0 ++ Z) (wrN A) = [] := by
  intro A
  induction h : A.length generalizing A with
  | zero =>
    intro C hR hf
    have : A = [] := List.length_eq_zero_iff.1 h
    subst this
    rfl
  | succ n ih =>
    intro C hR hf
    have hne : A ≠ [] := by intro e; rw [e] at h; cases h
    obtain ⟨A', q, rfl⟩ : ∃ A' q, A = A' ++ [q] := ⟨A.dropLast, A.getLast hne, (List.dropLast_concat_getLast hne).symm⟩
    have hq := hf q (by simp)
    obtain ⟨leaf, ps⟩ := q
    dsimp only at hq
    subst hq
    rw [wrN_append, rdK_add, ih A' (by simpa using h) ((false, ps) :: C) (by rw [hR]; simp) fun q hq => hf q (by simp [hq])]
    rw [List.nil_append, List.flatten_eq_nil_iff]
    intro r hr
    obtain ⟨i, hi, rfl⟩ := List.mem_map.1 hr
    have hi' : i < hol1 ps.length := by simpa [wrN] using hi
    rw [rdN_node (node_at (leaf := false) (C := C) (by rw [hR]; simp) hok hn hi')]
    rfl
theorem chk_flat (ps : List (Int × Int)) : ∀ m, ((List.range m).map fun i => chk ps i).flatten = ps.take (7 * m)
  | 0 => by simp
  | m + 1 => by
    rw [List.range_succ, List.map_append, List.flatten_append, chk_flat ps m]
    simp only [List.map_cons, List.map_nil, List.flatten_cons, List.flatten_nil, List.append_nil]
    unfold chk
    rw [show 7 * (m + 1) = 7 * m + 7 from by omega, List.take_add]
theorem exO_prL {l : List (Int × Int × Int)} (h : ∀ e, e ∈ l → 0 ≤ e.2.2 ∧ e.2.2 ≤ 2) : ((prL l).map fun p => (p.1, p.2 + 0)).map exO = l := by
  induction l with
  | nil => rfl
  | cons x l ih =>
    have hx := h x (by simp)
    have e : exO (x.1, x.2.1 * 4 + x.2.2 + 0) = x := by
      obtain ⟨a, s, u⟩ := x
      dsimp only [exO] at hx ⊢
      rw [show (s * 4 + u + 0) / 4 = s from by omega, show (s * 4 + u + 0) % 4 = u from by omega]
    show exO (x.1, x.2.1 * 4 + x.2.2 + 0) :: ((prL l).map fun p => (p.1, p.2 + 0)).map exO = x :: l
    rw [e, ih fun e he => h e (by simp [he])]
theorem zeros_node {X : List UInt8} {n k m : Nat} (hX : X.length = 128 * n) (hk : n ≤ k) (hm : k < n + m) : gtH (X ++ List.replicate (128 * m) 0) k = 0 := by
  have e : ndB (X ++ List.replicate (128 * m) 0) k = List.replicate 128 0 := by
    unfold ndB
    rw [List.take_append, List.take_of_length_le (by omega), List.drop_append, List.drop_of_length_le (by omega), List.nil_append, List.take_replicate, List.drop_replicate, hX]
    congr 1
    omega
  unfold gtH
  rw [e]
  have : getV (List.replicate 128 (0 : UInt8)) 0 = 0 := by decide +kernel
  exact this
theorem rdK_wr {pages room : Int} {l : List (Int × Int × Int)} (h : wrE pages room l = 0) : rdK (wrL pages room l) room.toNat = l ∧ (wrL pages room l).length = 128 * room.toNat := by
  refine ⟨?_, wrL_len h⟩
  obtain ⟨hR, h1, h2⟩ := wrE_ok h
  obtain ⟨hq1, hq2, hq3⟩ := wrR_ok hR
  obtain ⟨_, _, hl64, hbd⟩ := rt_bd hR
  have hWl := wrG_len (b := 0) hq1 (by omega)
  obtain ⟨V, hV, hf⟩ := lvP_shape true (prL l)
  have hpn : (prL l).length = l.length := by simp [prL]
  have hRR : wrR l = V.reverse ++ [(true, prL l)] := by rw [wrR, hV, List.reverse_cons]
  have hN : wrN (wrR l) = wrN V.reverse + hol1 l.length := by rw [hRR, wrN_append]; simp [wrN, hpn]
  obtain ⟨m, hm⟩ : ∃ m, room.toNat = wrN V.reverse + hol1 l.length + m := ⟨room.toNat - (wrN V.reverse + hol1 l.length), by omega⟩
  have hW : wrL pages room l = wrG (wrR l) 0 ++ List.replicate (128 * m) 0 := by
    rw [wrL, if_pos h, wrB, hWl]
    congr 2
    omega
  rw [hW, hm, rdK_add, rdK_add, rdK_inner hq1 (by omega) V.reverse [(true, prL l)] hRR (fun q hq => hf q (List.mem_reverse.1 hq)), List.nil_append]
  have e1 : ((List.range (hol1 l.length)).map fun i => rdN (wrG (wrR l) 0 ++ List.replicate (128 * m) 0) (wrN V.reverse + i) (gtN (wrG (wrR l) 0 ++ List.replicate (128 * m) 0) (wrN V.reverse + i))) = (List.range (hol1 l.length)).map fun i => ((chk (prL l) i).map fun p => (p.1, p.2 + 0)).map exO := by
    refine List.map_congr_left fun i hi => ?_
    rw [rdN_node (node_at hRR hq1 (by omega) (by rw [hpn]; exact List.mem_range.1 hi))]
    rfl
  have e2 : ((List.range m).map fun i => rdN (wrG (wrR l) 0 ++ List.replicate (128 * m) 0) (wrN V.reverse + hol1 l.length + i) (gtN (wrG (wrR l) 0 ++ List.replicate (128 * m) 0) (wrN V.reverse + hol1 l.length + i))).flatten = [] := by
    rw [List.flatten_eq_nil_iff]
    intro r hr
    obtain ⟨i, hi, rfl⟩ := List.mem_map.1 hr
    have hz := zeros_node (X := wrG (wrR l) 0) (n := wrN (wrR l)) (k := wrN V.reverse + hol1 l.length + i) (m := m) hWl (by omega) (by have := List.mem_range.1 hi; omega)
    rw [rdN, hz, if_neg (by decide)]
  rw [e1, e2, List.append_nil]
  have e3 : ((List.range (hol1 l.length)).map fun i => ((chk (prL l) i).map fun p => (p.1, p.2 + 0)).map exO).flatten = ((((List.range (hol1 l.length)).map fun i => chk (prL l) i).flatten).map fun p => (p.1, p.2 + 0)).map exO := by
    rw [List.map_flatten, List.map_flatten, List.map_map, List.map_map]
    rfl
  rw [e3, chk_flat, List.take_of_length_le (by rw [hpn]; unfold hol1 hol; omega)]
  exact exO_prL fun e he => by have := hbd e he; omega
theorem rd_wr {pages room : Int} {l : List (Int × Int × Int)} (h : wrE pages room l = 0) : rdB pages (wrL pages room l) = true ∧ rdL pages (wrL pages room l) = l := by
  obtain ⟨h1, h2⟩ := rdK_wr h
  obtain ⟨_, h3, h4⟩ := wrE_ok h
  have hd : (wrL pages room l).length / 128 = room.toNat := by omega
  have hB : rdB pages (wrL pages room l) = true := by
    refine decide_eq_true ⟨by omega, by omega, ?_, ?_⟩
    · rw [hd, h1, show ((room.toNat : Nat) : Int) = room from by omega]; exact h
    · rw [hd, h1, show ((room.toNat : Nat) : Int) = room from by omega]
  exact ⟨hB, by rw [rdL, hB, if_pos rfl, hd, h1]⟩
theorem rdB_wr {pages : Int} {b : List UInt8} (h : rdB pages b = true) : wrE pages (b.length / 128 : Nat) (rdL pages b) = 0 ∧ wrL pages (b.length / 128 : Nat) (rdL pages b) = b ∧ b.length = 128 * (b.length / 128) := by
  have h2 := of_decide_eq_true h
  rw [rdL, h, if_pos rfl]
  exact ⟨h2.2.2.1, h2.2.2.2, by omega⟩
end Go.Proofs.Ythalikgchafjiaa

namespace Go.Proofs.Ythalikgchafjiaa
open Go Go.Proofs.Ythalikgchafjiaa.V
set_option maxRecDepth 20000
attribute [local irreducible] CallS AOK AOKn ALoop Side Ref.ok
/-! What is found. -/
def fdE (pages : Int) (b : List UInt8) (page : Int) : Int × Int × Int := (fd (rdL pages b) page).getD (0, 0, 0)
def fdF (pages : Int) (b : List UInt8) (page : Int) : Bool := (fd (rdL pages b) page).isSome
def exV (e : Int × Int × Int) : AV := .agg [.int .i64 e.1, .int .i64 e.2.1, .int .i64 e.2.2]
theorem fd_none {pages page : Int} {b : List UInt8} (h : fd (rdL pages b) page = none) : fdE pages b page = (0, 0, 0) ∧ fdF pages b page = false := by rw [fdE, fdF, h]; exact ⟨rfl, rfl⟩
theorem fd_some {pages page : Int} {b : List UInt8} {e : Int × Int × Int} (h : fd (rdL pages b) page = some e) : fdE pages b page = e ∧ fdF pages b page = true := by rw [fdE, fdF, h]; exact ⟨rfl, rfl⟩
theorem fd_drop {l : List (Int × Int × Int)} {page : Int} {i : Nat} {e : Int × Int × Int} (h : l[i]? = some e) : fd (l.drop i) page = if inX page e then some e else fd (l.drop (i + 1)) page := by
  have hl := (List.getElem?_eq_some_iff.1 h).1
  have e1 : l.drop i = e :: l.drop (i + 1) := by rw [List.drop_eq_getElem_cons hl, (List.getElem?_eq_some_iff.1 h).2]
  rw [e1, fd, List.find?_cons]
  cases inX page e <;> rfl
/-! From the root down. -/
theorem wrR_rev {l : List (Int × Int × Int)} {A rest : List Lv} {q : Lv} (hR : wrR l = A ++ q :: rest) : lvP true (prL l) = rest.reverse ++ q :: A.reverse := by
  have := congrArg List.reverse hR
  rw [wrR, List.reverse_reverse] at this
  rw [this]
  simp
theorem at_leaf {l : List (Int × Int × Int)} {A rest : List Lv} {leaf : Bool} {ps : List (Int × Int)} (hR : wrR l = A ++ (leaf, ps) :: rest) : (rest = [] ∧ leaf = true ∧ ps = prL l) ∨ ∃ q' rest', rest = q' :: rest' ∧ leaf = false ∧ ps = upP q'.2 ∧ 1 < hol1 q'.2.length := by
  have hL := wrR_rev hR
  cases rest with
  | nil =>
    left
    obtain ⟨V, hV, _⟩ := lvP_shape true (prL l)
    rw [hV] at hL
    have := (List.cons.inj hL).1
    cases this
    exact ⟨rfl, rfl, rfl⟩
  | cons q' rest' =>
    right
    rw [List.reverse_cons, List.append_assoc, List.singleton_append] at hL
    have h1 := lvP_tail _ hL
    obtain ⟨h2, h3⟩ := lvP_next h1
    cases h3
    exact ⟨q', rest', rfl, rfl, rfl, h2⟩
theorem at_root {l : List (Int × Int × Int)} {rest : List Lv} {leaf : Bool} {ps : List (Int × Int)} (hR : wrR l = (leaf, ps) :: rest) : ps.length ≤ 7 := by
  have hL := wrR_rev (A := []) hR
  have h1 := lvP_tail _ hL
  have h2 := lvP_last (q := (leaf, ps)) h1
  dsimp only at h2
  unfold hol1 hol at h2
  omega
theorem at_cut {l : List (Int × Int × Int)} {A rest : List Lv} {leaf : Bool} {ps : List (Int × Int)} {page : Int} {s0 : Nat} (hR : wrR l = A ++ (leaf, ps) :: rest) (hc : Cut (prL l) page s0) : Cut ps page (s0 / 7 ^ rest.length) := by
  have := cut_at _ hc (wrR_rev hR)
  rwa [List.length_reverse] at this
theorem div7 {s n : Nat} (rest : Nat) (h : n = rest + 1) : s / 7 ^ n = s / 7 ^ rest / 7 := by
  subst h
  rw [Nat.pow_succ, Nat.div_div_eq_div_mul]
/-- A round: the node where one stands, its pair that leads on. -/
structure Stand (b : List UInt8) (k s : Nat) (leaf : Bool) (sh : Int) (ps : List (Int × Int)) (page : Int) : Prop where
  node : NodeIs b k leaf sh (chk ps (s / 7))
  lt : s % 7 < (chk ps (s / 7)).length
  ex : k < b.length / 128
  cmp : ∀ (j : Nat) (p : Int × Int), (gtP b k (gtN b k))[j]? = some p → (p.1 ≤ page ↔ j ≤ s % 7)
  at' : ∃ p, ps[s]? = some p ∧ (gtP b k (gtN b k))[s % 7]? = some (p.1, p.2 + sh)
theorem stand {pages room page : Int} {l : List (Int × Int × Int)} {A rest : List Lv} {leaf : Bool} {ps : List (Int × Int)} {s0 : Nat} (hE : wrE pages room l = 0) (hR : wrR l = A ++ (leaf, ps) :: rest) (hc : Cut (prL l) page s0) :
    Stand (wrL pages room l) (wrN A + s0 / 7 ^ rest.length / 7) (s0 / 7 ^ rest.length) leaf (if leaf then 0 else ((wrN A + hol1 ps.length : Nat) : Int)) ps page := by
  obtain ⟨hRt, h1, h2⟩ := wrE_ok hE
  obtain ⟨hq1, hq2, hq3⟩ := wrR_ok hRt
  have hcut := at_cut hR hc
  generalize s0 / 7 ^ rest.length = s at *
  have hlt := hcut.lt
  have hh : hol1 ps.length = max 1 ((ps.length + 6) / 7) := rfl
  have hnR : wrN (wrR l) = wrN A + (hol1 ps.length + wrN rest) := by rw [hR, wrN_append]; rfl
  have hW : wrL pages room l = wrG (wrR l) 0 ++ List.replicate (128 * room.toNat - (wrG (wrR l) 0).length) 0 := by rw [wrL, if_pos hE]; rfl
  have hnode : NodeIs (wrL pages room l) (wrN A + s / 7) leaf (if leaf then 0 else ((wrN A + hol1 ps.length : Nat) : Int)) (chk ps (s / 7)) := by
    rw [hW]
    exact node_at hR hq1 (by omega) (by omega)
  have hcl := chk_length ps (s / 7)
  have hgp : ∀ j, (gtP (wrL pages room l) (wrN A + s / 7) (gtN (wrL pages room l) (wrN A + s / 7)))[j]? = ((chk ps (s / 7))[j]?).map fun (p : Int × Int) => (p.1, p.2 + (if leaf then 0 else ((wrN A + hol1 ps.length : Nat) : Int))) := fun j => by
    rw [hnode.n, hnode.ps, List.getElem?_map]
  refine ⟨hnode, by omega, by rw [wrL_len hE]; omega, fun j p hp => ?_, ?_⟩
  · rw [hgp] at hp
    obtain ⟨p', hp', rfl⟩ := Option.map_eq_some_iff.1 hp
    have hj := (List.getElem?_eq_some_iff.1 hp').1
    rw [chk_get (by omega)] at hp'
    dsimp only
    constructor
    · intro h
      by_cases hjs : j ≤ s % 7
      · exact hjs
      · have := hcut.gt _ p' (by omega) hp'
        omega
    · intro h
      exact hcut.le _ p' (by omega) hp'
  · refine ⟨ps[s], List.getElem?_eq_getElem hlt, ?_⟩
    rw [hgp, chk_get (by omega), show 7 * (s / 7) + s % 7 = s from by omega, List.getElem?_eq_getElem hlt]
    rfl
attribute [local irreducible] gtV gtP gtN gtH rdK rdL rdB
theorem RFind_ok (pages : Int) (b : List UInt8) (page : Int) (hb : b.length ≤ 4611686018427) (hpg : -9223372036854775808 ≤ page ∧ page ≤ 9223372036854775807) : AOKn Try.prog F.joistref14_Find [.int .i64 pages, .sl 1 (bs b) false, .int .i64 page] fun y => y = .tup [exV (fdE pages b page), .bool (fdF pages b page)] := by
  have hn := bs_length b
  have hrl : (rdL pages b).length ≤ 7 * (b.length / 128) := by
    unfold rdL
    split
    · exact rdK_len _ _
    · simp
  have hB : rdB pages b = true ∨ rdL pages b = [] := by
    cases h : rdB pages b
    · right; rw [rdL, h]; rfl
    · exact .inl rfl
  refine AOKn.by_steps mixed fc_joistref14_Find_ok (by simp [fc_joistref14_Find]) ?_
  skip
  all_goals (conv => whnf)
  all_goals (try dsimp only)
  refine call_sl1 (RRead_ok pages b hb) (.cons (Looks.int _ _ _) (.cons (Looks.bs _ _ _) .nil)) rfl fun σ1 y hg1 hy hny => ?_
  have b0 := hg1.2 0 _ rfl (by simp)
  have hbl := bk_length (rdL pages b)
  have hbd : ∀ e, e ∈ rdL pages b → ((0 ≤ e.1 ∧ e.1 ≤ 64) ∧ 1 ≤ e.2.1 ∧ e.2.1 ≤ 64) := fun e he => by
    rcases hB with h | h
    · obtain ⟨h1, _, _⟩ := rdB_wr h
      have := (rt_bd (wrE_ok h1).1).2.2.2 e he
      omega
    · rw [h] at he; cases he
  have hfF : fdF pages b page = (fd (rdL pages b) page).isSome := rfl
  have hfE : fdE pages b page = (fd (rdL pages b) page).getD (0, 0, 0) := rfl
  rw [hfF, hfE]
  generalize rdL pages b = L at *
  skip
  all_goals (conv => whnf)
  all_goals (try dsimp only)
  refine loop_at (α := Nat) (fun a => [(10, .int .i64 a)]) (fun a => σ1) (fun a => a ≤ L.length ∧ fd (L.drop a) page = fd L page) (fun a => L.length - a) 0 ⟨by omega, rfl⟩ rfl rfl ?_
  rintro i ⟨hi, hfd⟩
  by_cases hlt : i < L.length
  · have hT : rdB pages b = true := by
      rcases hB with h | h
      · exact h
      · rw [h] at hlt; cases hlt
    rw [hT]
    obtain ⟨e, he1, he2⟩ := getN (l := L) (k := i) hlt
    have hbe := hbd e (List.mem_of_getElem? he2)
    rw [fd_drop he2] at hfd
    cases hin : inX page e
    · rw [hin] at hfd
      have hin2 := hin
      simp only [inX, decide_eq_false_iff_not] at hin2
      repeat' (first
        | ((with_reducible refine Side.intro ?_) <;> (first
        | omega
        ))
        | ((conv => whnf) <;> (first
        | (with_reducible refine and_same ?_)
        | ((with_reducible apply Br.yes) ; (focus omega))
        | ((with_reducible apply Br.no) ; (focus omega))
        | (with_reducible refine Br.mk (fun _ => ?_) (fun _ => ?_))
        | ((with_reducible apply blkAt_step) ; (focus (first
        | ((repeat (first
        | assumption
        )); done)
        )) ; (focus (first | rfl | assumption | omega)) ; (focus (first | rfl | assumption)) ; (try dsimp only))
        | ((with_reducible apply nthR_bk) ; (focus assumption))
        | ((with_reducible apply lenR_own) ; (focus assumption))
        | ((with_reducible apply ia_own) ; (focus assumption))
        | (with_reducible refine nthR_z ?_)
        | ((with_reducible apply nthR_left) ; (focus (first | omega | (simp only [List.length_append, List.length_cons, List.length_nil, List.length_take, List.length_drop, bs_length]; omega))))
        | (with_reducible intro _)
        ))
        )
      all_goals (conv => whnf)
      all_goals (try dsimp only)
      all_goals first
        | exact ⟨i + 1, rfl, rfl, ⟨by omega, hfd⟩, by omega⟩
        | (exfalso; omega)
    · rw [hin, if_pos rfl] at hfd
      have hin2 := hin
      simp only [inX, decide_eq_true_eq] at hin2
      rw [← hfd]
      repeat' (first
        | ((with_reducible refine Side.intro ?_) <;> (first
        | omega
        | exact Nat.le_of_ble_eq_true rfl
        | (simp only [List.append_nil, List.nil_append, List.map_nil]; first | exact List.nodup_nil | exact nodup_bid1 _ | exact nodup_bid2 (by assumption))
        | ((first | refine fresh_tup ?_ | skip); (repeat (first |  exact FreshA.sl _ _ FreshA_bs | exact FreshA.sl _ _ FreshA_is | exact FreshA.nils | exact FreshA.nilp | exact FreshA.int _ _ | exact FreshA.bool _ | exact FreshA.str _ | exact fresh_nil | refine fresh_cons ?_ ?_ | with_reducible refine fresh_aggR ?_ | with_reducible refine fresh_agg ?_ | with_reducible exact fresh_nilA | with_reducible refine fresh_consA ?_ ?_)); done)
        | exact rfl
        ))
        | ((conv => whnf) <;> (first
        | (with_reducible refine and_same ?_)
        | (with_reducible refine and_side ?_ ?_)
        | ((with_reducible apply Br.yes) ; (focus omega))
        | ((with_reducible apply blkAt_step) ; (focus (first
        | ((repeat (first
        | assumption
        | exact get_set (by assumption)
        )); done)
        )) ; (focus (first | rfl | assumption | omega)) ; (focus (first | rfl | assumption)) ; (try dsimp only))
        | ((with_reducible apply nthR_bk) ; (focus assumption))
        | ((with_reducible apply lenR_own) ; (focus assumption))
        | ((with_reducible apply ia_own) ; (focus assumption))
        | (with_reducible refine NOut.lit ?_)
        | (with_reducible refine nthR_z ?_)
        | ((with_reducible apply nthR_left) ; (focus (first | omega | (simp only [List.length_append, List.length_cons, List.length_nil, List.length_take, List.length_drop, bs_length]; omega))))
        | (with_reducible intro _)
        ))
        )
      all_goals (conv => whnf)
      all_goals (try dsimp only)
      all_goals first
        | exact ret_same rfl
        | (exfalso; omega)
  · have hiE : i = L.length := by omega
    subst hiE
    rw [List.drop_length] at hfd
    rw [← hfd]
    repeat' (first
      | ((with_reducible refine Side.intro ?_) <;> (first
      | exact Nat.le_of_ble_eq_true rfl
      | (simp only [List.append_nil, List.nil_append, List.map_nil]; first | exact List.nodup_nil | exact nodup_bid1 _ | exact nodup_bid2 (by assumption))
      | ((first | refine fresh_tup ?_ | skip); (repeat (first |  exact FreshA.sl _ _ FreshA_bs | exact FreshA.sl _ _ FreshA_is | exact FreshA.nils | exact FreshA.nilp | exact FreshA.int _ _ | exact FreshA.bool _ | exact FreshA.str _ | exact fresh_nil | refine fresh_cons ?_ ?_ | with_reducible refine fresh_aggR ?_ | with_reducible refine fresh_agg ?_ | with_reducible exact fresh_nilA | with_reducible refine fresh_consA ?_ ?_)); done)
      | exact rfl
      ))
      | ((conv => whnf) <;> (first
      | (with_reducible refine and_same ?_)
      | (with_reducible refine and_side ?_ ?_)
      | ((with_reducible apply Br.no) ; (focus omega))
      | ((with_reducible apply blkAt_step) ; (focus (first
      | ((repeat (first
      | assumption
      | exact get_set (by assumption)
      )); done)
      )) ; (focus (first | rfl | assumption | omega)) ; (focus (first | rfl | assumption)) ; (try dsimp only))
      | ((with_reducible apply lenR_own) ; (focus assumption))
      | (with_reducible refine NOut.lit ?_)
      ))
      )
    all_goals (conv => whnf)
    all_goals (try dsimp only)
    all_goals exact ret_same rfl
theorem Find_ok (pages : Int) (b : List UInt8) (page : Int) (hb : b.length ≤ 4611686018427) (hpg : -9223372036854775808 ≤ page ∧ page ≤ 9223372036854775807) : AOKn Try.prog F.tree_Find [.int .i64 pages, .sl 1 (bs b) false, .int .i64 page] fun y => y = .tup [exV (fdE pages b page), .bool (fdF pages b page)] := by
  have hn := bs_length b
  refine AOKn.by_steps mixed fc_tree_Find_ok (by simp [fc_tree_Find]) ?_
  skip
  all_goals (conv => whnf)
  all_goals (try dsimp only)
  refine call_sl1 (Read_ok pages b hb) (.cons (Looks.int _ _ _) (.cons (Looks.bs _ _ _) .nil)) rfl fun σ1 y hg1 hy hny => ?_
  have b0 := hg1.2 0 _ rfl (by simp)
  cases hB : rdB pages b
  · have hL : rdL pages b = [] := by rw [rdL, hB]; rfl
    obtain ⟨f1, f2⟩ := fd_none (pages := pages) (b := b) (page := page) (by rw [hL]; rfl)
    rw [f1, f2]
    repeat' (first
      | ((with_reducible refine Side.intro ?_) <;> (first
      | exact Nat.le_of_ble_eq_true rfl
      | (simp only [List.append_nil, List.nil_append, List.map_nil]; first | exact List.nodup_nil | exact nodup_bid1 _ | exact nodup_bid2 (by assumption))
      | ((first | refine fresh_tup ?_ | skip); (repeat (first |  exact FreshA.sl _ _ FreshA_bs | exact FreshA.sl _ _ FreshA_is | exact FreshA.nils | exact FreshA.nilp | exact FreshA.int _ _ | exact FreshA.bool _ | exact FreshA.str _ | exact fresh_nil | refine fresh_cons ?_ ?_ | with_reducible refine fresh_aggR ?_ | with_reducible refine fresh_agg ?_ | with_reducible exact fresh_nilA | with_reducible refine fresh_consA ?_ ?_)); done)
      | exact rfl
      ))
      | ((conv => whnf) <;> (first
      | (with_reducible refine and_same ?_)
      | (with_reducible refine and_side ?_ ?_)
      | ((with_reducible apply blkAt_step) ; (focus (first
      | ((repeat (first
      | assumption
      | exact get_set (by assumption)
      )); done)
      )) ; (focus (first | rfl | assumption | omega)) ; (focus (first | rfl | assumption)) ; (try dsimp only))
      | (with_reducible refine NOut.lit ?_)
      ))
      )
    all_goals (conv => whnf)
    all_goals (try dsimp only)
    all_goals exact ret_same rfl
  · obtain ⟨hE, hW, hbl⟩ := rdB_wr hB
    have hRt := (wrE_ok hE).1
    by_cases hpp : page < 0 ∨ pages ≤ page
    · obtain ⟨f1, f2⟩ := fd_none (page := page) (rt_none hRt hpp)
      rw [f1, f2]
      repeat' (first
        | ((with_reducible refine Side.intro ?_) <;> (first
        | exact Nat.le_of_ble_eq_true rfl
        | (simp only [List.append_nil, List.nil_append, List.map_nil]; first | exact List.nodup_nil | exact nodup_bid1 _ | exact nodup_bid2 (by assumption))
        | ((first | refine fresh_tup ?_ | skip); (repeat (first |  exact FreshA.sl _ _ FreshA_bs | exact FreshA.sl _ _ FreshA_is | exact FreshA.nils | exact FreshA.nilp | exact FreshA.int _ _ | exact FreshA.bool _ | exact FreshA.str _ | exact fresh_nil | refine fresh_cons ?_ ?_ | with_reducible refine fresh_aggR ?_ | with_reducible refine fresh_agg ?_ | with_reducible exact fresh_nilA | with_reducible refine fresh_consA ?_ ?_)); done)
        | exact rfl
        ))
        | ((conv => whnf) <;> (first
        | (with_reducible refine and_same ?_)
        | (with_reducible refine and_side ?_ ?_)
        | ((with_reducible apply Br.yes) ; (focus omega))
        | (with_reducible refine Br.mk (fun _ => ?_) (fun _ => ?_))
        | ((with_reducible apply blkAt_step) ; (focus (first
        | ((repeat (first
        | assumption
        | exact get_set (by assumption)
        )); done)
        )) ; (focus (first | rfl | assumption | omega)) ; (focus (first | rfl | assumption)) ; (try dsimp only))
        | (with_reducible refine NOut.lit ?_)
        ))
        )
      all_goals (conv => whnf)
      all_goals (try dsimp only)
      all_goals first
        | exact ret_same rfl
        | (exfalso; omega)
    · obtain ⟨s0, e, hs1, hcut, hfd, hin⟩ := rt_find (page := page) hRt (by omega) (by omega)
      obtain ⟨f1, f2⟩ := fd_some hfd
      rw [f1, f2]
      generalize rdL pages b = l at *
      have hst : ∀ {A rest : List Lv} {leaf : Bool} {ps : List (Int × Int)}, wrR l = A ++ (leaf, ps) :: rest → Stand b (wrN A + s0 / 7 ^ rest.length / 7) (s0 / 7 ^ rest.length) leaf (if leaf then 0 else ((wrN A + hol1 ps.length : Nat) : Int)) ps page := fun hR => by
        have := stand hE hR hcut
        rwa [hW] at this
      obtain ⟨q0, rest0, hR0⟩ : ∃ q0 rest0, wrR l = q0 :: rest0 := by
        cases h : wrR l with
        | nil =>
          have := wrR_rev (A := []) (rest := []) (q := (true, prL l)) (l := l)
          have h2 := (lvP_len _ _ _ (rfl : lvP true (prL l) = _)).2
          have h3 : (wrR l).length = (lvP true (prL l)).length := by rw [wrR, List.length_reverse]
          rw [h] at h3
          simp only [List.length_nil] at h3
          omega
        | cons a r => exact ⟨a, r, rfl⟩
      obtain ⟨leaf0, ps0⟩ := q0
      have h00 : s0 / 7 ^ rest0.length / 7 = 0 := by
        have h7 := at_root hR0
        have := (at_cut (A := []) hR0 hcut).lt
        generalize s0 / 7 ^ rest0.length = s at *
        omega
      have hS0 := hst (A := []) hR0
      rw [h00] at hS0
      have hex0 := hS0.ex
      simp only [wrN] at hex0
      repeat' (first
        | ((conv => whnf) <;> (first
        | (with_reducible refine and_same ?_)
        | ((with_reducible apply Br.no) ; (focus omega))
        ))
        )
      all_goals (conv => whnf)
      all_goals (try dsimp only)
      refine call_one (get_ok b 0 (by omega) hb) (.cons (Looks.bs _ _ _) (.cons (Looks.int _ _ _) .nil)) rfl fun σ2 hg2 => ?_
      replace b0 := hg2.2 _ _ b0 (by simp)
      repeat' (first
        | ((with_reducible refine Side.intro ?_) <;> (first
        | exact Nat.le_of_ble_eq_true rfl
        | exact rfl
        ))
        | ((conv => whnf) <;> (first
        | (with_reducible refine and_same ?_)
        | (with_reducible refine and_side ?_ ?_)
        | ((with_reducible apply blkAt_step) ; (focus (first
        | ((repeat (first
        | exact get_new
        )); done)
        )) ; (focus (first | rfl | assumption | omega)) ; (focus (first | rfl | assumption)) ; (try dsimp only))
        ))
        )
      all_goals (conv => whnf)
      all_goals (try dsimp only)
      refine loop_at (α := List Lv × Lv × List Lv × AH) (fun a => []) (fun a => a.2.2.2) (fun a => wrR l = a.1 ++ a.2.1 :: a.2.2.1 ∧ a.2.2.2[0]? = some { sz := 3, els := [[.int .i64 0, .int .i64 0, .int .i64 0]], gen := 0, wr := true, pure := true } ∧ ∃ p, a.2.2.2[σ2.length]? = some { sz := 2, els := [[.bool (decide (gtH b (wrN a.1 + s0 / 7 ^ a.2.2.1.length / 7) % 2 = 1)), gtV b (wrN a.1 + s0 / 7 ^ a.2.2.1.length / 7)]], gen := 0, wr := true, pure := p }) (fun a => a.2.2.1.length) ([], (leaf0, ps0), rest0, _) ⟨hR0, ?_, ?_⟩ rfl rfl ?_
      · exact get_set_ne (by have := (List.getElem?_eq_some_iff.1 b0).1; omega) (get_old b0)
      · dsimp only
        rw [h00]
        exact ⟨_, get_set get_new⟩
      rintro ⟨A, ⟨leaf, ps⟩, rest, σ3⟩ ⟨hR, c0, p, c1⟩
      dsimp only at hR c0 c1 ⊢
      have hS := hst hR
      have hlf := at_leaf hR
      generalize hk : wrN A + s0 / 7 ^ rest.length / 7 = k at *
      generalize hs : s0 / 7 ^ rest.length = s at *
      have hmk : GtMark b k := ⟨⟩
      have hN := hS.node.n
      have hsl := hS.lt
      have hc7 := chk_len ps (s / 7)
      have hl2 := (List.getElem?_eq_some_iff.1 b0).1
      have hl3 := (List.getElem?_eq_some_iff.1 c1).1
      repeat' (first
        | ((conv => whnf) <;> (first
        | ((with_reducible apply blkAt_step) ; (focus (first
        | ((repeat (first
        | assumption
        )); done)
        )) ; (focus (first | rfl | assumption | omega)) ; (focus (first | rfl | assumption)) ; (try dsimp only))
        | ((with_reducible apply gt_len) ; (focus assumption))
        ))
        )
      all_goals (conv => whnf)
      all_goals (try dsimp only)
      refine loop_at (α := Nat × AH) (fun a => [(11, .int .i64 ((min (a.1 - 1) (s % 7) : Nat) : Int)), (37, .int .i64 a.1)]) (fun a => a.2) (fun a => a.1 ≤ gtN b k ∧ a.2[0]? = some { sz := 3, els := [[.int .i64 0, .int .i64 0, .int .i64 0]], gen := 0, wr := true, pure := true } ∧ a.2[σ2.length]? = some { sz := 2, els := [[.bool (decide (gtH b k % 2 = 1)), gtV b k]], gen := 0, wr := true, pure := p }) (fun a => gtN b k - a.1) (0, σ3) ⟨by omega, c0, c1⟩ (by simp [Fr.upd, Fr.pick]) rfl ?_
      rintro ⟨j, σ4⟩ ⟨hj, d0, d1⟩
      dsimp only at hj d0 d1 ⊢
      have hl4 := (List.getElem?_eq_some_iff.1 d1).1
      by_cases hjt : j < gtN b k
      · obtain ⟨q, hq⟩ : ∃ q, (gtP b k (gtN b k))[((j : Nat) : Int).toNat]? = some q := ⟨_, List.getElem?_eq_getElem (by rw [gtP_length, Int.toNat_natCast]; omega)⟩
        have hqb := gtP_bd hq
        have hcmp := hS.cmp j q (by rw [Int.toNat_natCast] at hq; exact hq)
        by_cases hjs : j ≤ s % 7
        · have hqp := hcmp.2 hjs
          repeat' (first
            | ((with_reducible refine Side.intro ?_) <;> (first
            | omega
            | exact Nat.le_of_ble_eq_true rfl
            | exact rfl
            ))
            | ((conv => whnf) <;> (first
            | (with_reducible refine and_same ?_)
            | (with_reducible refine and_side ?_ ?_)
            | ((with_reducible apply Br.yes) ; (focus omega))
            | ((with_reducible apply blkAt_step) ; (focus (first
            | ((repeat (first
            | exact get_new
            | exact get_set get_new
            )); done)
            )) ; (focus (first | rfl | assumption | omega)) ; (focus (first | rfl | assumption)) ; (try dsimp only))
            | ((with_reducible apply gt_ia) ; (focus assumption))
            ))
            )
          all_goals (conv => whnf)
          all_goals (try dsimp only)
          exact ⟨(j + 1, _), by simp only [show min (j + 1 - 1) (s % 7) = j from by omega, Int.natCast_add]; rfl, rfl, ⟨by omega, get_set_ne (by omega) (get_old d0), get_set_ne (by omega) (get_old d1)⟩, by omega⟩
        · have hqp : ¬ q.1 ≤ page := fun h => hjs (hcmp.1 h)
          repeat' (first
            | ((with_reducible refine Side.intro ?_) <;> (first
            | omega
            | exact Nat.le_of_ble_eq_true rfl
            | exact rfl
            ))
            | ((conv => whnf) <;> (first
            | (with_reducible refine and_same ?_)
            | (with_reducible refine and_side ?_ ?_)
            | ((with_reducible apply Br.yes) ; (focus omega))
            | ((with_reducible apply Br.no) ; (focus omega))
            | ((with_reducible apply blkAt_step) ; (focus (first
            | ((repeat (first
            | exact get_new
            | exact get_set get_new
            )); done)
            )) ; (focus (first | rfl | assumption | omega)) ; (focus (first | rfl | assumption)) ; (try dsimp only))
            | ((with_reducible apply gt_ia) ; (focus assumption))
            ))
            )
          all_goals (conv => whnf)
          all_goals (try dsimp only)
          exact ⟨(j + 1, _), by simp only [show min (j + 1 - 1) (s % 7) = min (j - 1) (s % 7) from by omega, Int.natCast_add]; rfl, rfl, ⟨by omega, get_set_ne (by omega) (get_old d0), get_set_ne (by omega) (get_old d1)⟩, by omega⟩
      · have hjE : min (j - 1) (s % 7) = s % 7 := by omega
        rw [hjE]
        obtain ⟨pp, hp1, hp2⟩ := hS.at'
        have hhd := hS.node.hd
        rcases hlf with ⟨h1, h2, h3⟩ | ⟨q', rest', h1, h2, h3, h4⟩
        · subst h1
          subst h2
          subst h3
          have hss : s = s0 := by rw [← hs]; simp
          subst hss
          have hdl : decide (gtH b k % 2 = 1) = true := decide_eq_true (by rw [hhd, if_pos rfl]; omega)
          rw [hdl] at d1 ⊢
          rw [if_pos rfl] at hp2
          have hp3 : (gtP b k (gtN b k))[((s % 7 : Nat) : Int).toNat]? = some (pp.1, pp.2 + 0) := by rw [Int.toNat_natCast]; exact hp2
          have hpb := gtP_bd hp3
          dsimp only at hpb
          have hpe : pp = (e.1, e.2.1 * 4 + e.2.2) := by
            simp only [prL, List.getElem?_map, hs1, Option.map_some, Option.some.injEq] at hp1
            exact hp1.symm
          have hbe := (rt_bd hRt).2.2.2 e (List.mem_of_getElem? hs1)
          have hex : AV.agg [.int .i64 pp.1, .int .i64 ((pp.2 + 0) / 4), .int .i64 ((pp.2 + 0) % 4)] = exV e := by
            rw [hpe, exV]
            dsimp only
            rw [show (e.2.1 * 4 + e.2.2 + 0) / 4 = e.2.1 from by omega, show (e.2.1 * 4 + e.2.2 + 0) % 4 = e.2.2 from by omega]
          repeat' (first
            | ((with_reducible refine Side.intro ?_) <;> (first
            | omega
            | exact Nat.le_of_ble_eq_true rfl
            ))
            | ((conv => whnf) <;> (first
            | (with_reducible refine and_same ?_)
            | (with_reducible refine and_side ?_ ?_)
            | ((with_reducible apply Br.no) ; (focus omega))
            | ((with_reducible apply blkAt_step) ; (focus (first
            | ((repeat (first
            | assumption
            )); done)
            )) ; (focus (first | rfl | assumption | omega)) ; (focus (first | rfl | assumption)) ; (try dsimp only))
            | ((with_reducible apply gt_ia) ; (focus assumption))
            ))
            )
          all_goals (conv => whnf)
          all_goals (try dsimp only)
          refine call_one (extent_ok pp.1 (pp.2 + 0) (by omega) (by omega)) (.cons (.same rfl) .nil) rfl fun σ5 hg5 => ?_
          have d0' := hg5.2 _ _ d0 (by simp)
          rw [hex]
          unfold exV
          repeat' (first
            | ((with_reducible refine Side.intro ?_) <;> (first
            | exact Nat.le_of_ble_eq_true rfl
            | (simp only [List.append_nil, List.nil_append, List.map_nil]; first | exact List.nodup_nil | exact nodup_bid1 _ | exact nodup_bid2 (by assumption))
            | ((first | refine fresh_tup ?_ | skip); (repeat (first |  exact FreshA.sl _ _ FreshA_bs | exact FreshA.sl _ _ FreshA_is | exact FreshA.nils | exact FreshA.nilp | exact FreshA.int _ _ | exact FreshA.bool _ | exact FreshA.str _ | exact fresh_nil | refine fresh_cons ?_ ?_ | with_reducible refine fresh_aggR ?_ | with_reducible refine fresh_agg ?_ | with_reducible exact fresh_nilA | with_reducible refine fresh_consA ?_ ?_)); done)
            | exact rfl
            ))
            | ((conv => whnf) <;> (first
            | (with_reducible refine and_same ?_)
            | (with_reducible refine and_side ?_ ?_)
            | ((with_reducible apply blkAt_step) ; (focus (first
            | ((repeat (first
            | assumption
            | exact get_set (by assumption)
            )); done)
            )) ; (focus (first | rfl | assumption | omega)) ; (focus (first | rfl | assumption)) ; (try dsimp only))
            | (with_reducible refine NOut.lit ?_)
            ))
            )
          all_goals (conv => whnf)
          all_goals (try dsimp only)
          exact ret_same rfl
        · subst h1
          subst h2
          have hdl : decide (gtH b k % 2 = 1) = false := decide_eq_false (by rw [hhd, if_neg (by decide)]; omega)
          rw [hdl] at d1 ⊢
          rw [if_neg (by decide)] at hp2
          have hR' : wrR l = (A ++ [(false, ps)]) ++ q' :: rest' := by rw [hR]; simp
          have hS' := hst hR'
          have hss : s = s0 / 7 ^ rest'.length / 7 := by rw [← hs]; exact div7 _ rfl
          have hps : pp.2 = (s : Int) := by
            have hslt : s < hol1 q'.2.length := by
              have := (List.getElem?_eq_some_iff.1 hp1).1
              rw [h3, upP_length] at this
              exact this
            rw [h3, upP_get hslt] at hp1
            cases hp1
            rfl
          have hkk : wrN (A ++ [(false, ps)]) + s0 / 7 ^ rest'.length / 7 = wrN A + hol1 ps.length + s := by rw [wrN_append, hss]; rfl
          have hpv : pp.2 + ((wrN A + hol1 ps.length : Nat) : Int) = ((wrN A + hol1 ps.length + s : Nat) : Int) := by rw [hps]; omega
          rw [hpv] at hp2
          have hp3 : (gtP b k (gtN b k))[((s % 7 : Nat) : Int).toNat]? = some (pp.1, ((wrN A + hol1 ps.length + s : Nat) : Int)) := by rw [Int.toNat_natCast]; exact hp2
          have hex := hS'.ex
          rw [hkk] at hex
          repeat' (first
            | ((with_reducible refine Side.intro ?_) <;> (first
            | omega
            ))
            | ((conv => whnf) <;> (first
            | (with_reducible refine and_same ?_)
            | (with_reducible refine and_side ?_ ?_)
            | ((with_reducible apply Br.no) ; (focus omega))
            | ((with_reducible apply blkAt_step) ; (focus (first
            | ((repeat (first
            | assumption
            )); done)
            )) ; (focus (first | rfl | assumption | omega)) ; (focus (first | rfl | assumption)) ; (try dsimp only))
            | ((with_reducible apply gt_ia) ; (focus assumption))
            ))
            )
          all_goals (conv => whnf)
          all_goals (try dsimp only)
          refine call_one (get_ok b (wrN A + hol1 ps.length + s) (by omega) hb) (.cons (Looks.bs _ _ _) (.cons (Looks.int _ _ _) .nil)) rfl fun σ5 hg5 => ?_
          have d0' := hg5.2 _ _ d0 (by simp)
          have d1' := hg5.2 _ _ d1 (by simp)
          repeat' (first
            | ((with_reducible refine Side.intro ?_) <;> (first
            | exact Nat.le_of_ble_eq_true rfl
            | exact rfl
            ))
            | ((conv => whnf) <;> (first
            | (with_reducible refine and_same ?_)
            | (with_reducible refine and_side ?_ ?_)
            | ((with_reducible apply blkAt_step) ; (focus (first
            | ((repeat (first
            | assumption
            )); done)
            )) ; (focus (first | rfl | assumption | omega)) ; (focus (first | rfl | assumption)) ; (try dsimp only))
            ))
            )
          all_goals (conv => whnf)
          all_goals (try dsimp only)
          refine ⟨(A ++ [(false, ps)], q', rest', _), rfl, rfl, ⟨hR', get_set_ne (by omega) d0', ?_⟩, by dsimp only; simp⟩
          dsimp only
          rw [hkk]
          exact ⟨_, get_set d1'⟩
end Go.Proofs.Ythalikgchafjiaa

