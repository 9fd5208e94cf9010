import Derived.Test.YtbmocdcfcdmmkaaPlaws08h
namespace Go.Proofs.Ytbmocdcfcdmmkaa
open Go Go.Proofs.Ytbmocdcfcdmmkaa.V
set_option maxRecDepth 20000
attribute [local irreducible] CallS AOK AOKn ALoop Side Ref.ok
theorem rdOk_lg2 {s : List UInt8} (h : ¬ (s.length ≤ 1024 ∧ s.length % 32 = 0)) : rdOk s = false ∧ rdR s = [] := by
  by_cases h1 : s.length ≤ 1024
  · cases ho : okL (rdL s)
    · exact rdOk_no ho
    · refine rdOk_ne fun e => h ⟨h1, ?_⟩
      have := btR_length ho
      rw [e] at this
      omega
  · exact rdOk_lg h1
set_option maxHeartbeats 4000000 in
theorem RRead_ok8 (s : List UInt8) (hs : s.length ≤ 4611686018) : AOKn Try.prog F.joistref08_Read [.sl 1 (bs s) false] fun y => y = .tup [.sl 5 (ss (rdR s)) true, .bool (rdOk s)] := by
  have hn := bs_length s
  have hal := allR_length s
  refine AOKn.by_steps mixed fc_joistref08_Read_ok (by simp [fc_joistref08_Read]) ?_
  by_cases hlen : s.length ≤ 1024 ∧ s.length % 32 = 0
  · repeat' (first
      | ((with_reducible refine Side.intro ?_) <;> (first
      | omega
      ))
      | ((conv => whnf) <;> (first
      | (with_reducible refine and_same ?_)
      | (with_reducible refine and_side ?_ ?_)
      | ((with_reducible apply Br.yes) ; (focus omega))
      | ((with_reducible apply Br.no) ; (focus omega))
      | (with_reducible refine lenR_sl ?_)
      ))
      )
    all_goals (conv => whnf)
    all_goals (try dsimp only)
    refine RAll_call s (by omega) (.bs _ _ _) fun H1 w hg1 hw hn1 => ?_
    have hbd : ∀ v, v ∈ allR s → 0 ≤ v ∧ v ≤ 4611686018427387903 := fun v => allR_bd
    have eL : rdL s = rd (allR s) ((allR s).length / 4) := rfl
    have hwl := is_length (allR s)
    skip
    all_goals (conv => whnf)
    all_goals (try dsimp only)
    rcases hw with ⟨rfl, h0⟩ | ⟨id, gen, sp, rfl, hb⟩
    · have hW : allR s = [] := by
        have := congrArg List.length h0
        rw [hwl] at this
        exact List.length_eq_zero_iff.1 this
      refine loop_at (α := Unit) (fun a => [(4, .nils), (6, .nils), (7, .int .i64 0)]) (fun a => H1) (fun a => True) (fun a => 0) () trivial rfl rfl ?_
      rintro ⟨⟩ _
      repeat' (first
        | ((conv => whnf) <;> (first
        | (with_reducible refine and_same ?_)
        | ((with_reducible apply Br.yes) ; (focus omega))
        | ((with_reducible apply Br.no) ; (focus omega))
        | (with_reducible refine lenR_nils ?_)
        ))
        )
      all_goals (conv => whnf)
      all_goals (try dsimp only)
      have hL0 : rdL s = [] := by rw [eL, hW]; rfl
      obtain ⟨r1, r2⟩ := rdOk_no (s := s) (by rw [hL0]; rfl)
      rw [r1, r2]
      refine RBytes8_call [] (by simp) (Looks.ownss (Own.nil _ _)) fun H2 y hg2 hy hn2 => ?_
      rw [show btE [] = 1 from rfl]
      repeat' (first
        | ((with_reducible refine Side.intro ?_) <;> (first
        | (simp only [List.append_nil, List.nil_append, List.map_nil]; first | exact List.nodup_nil | exact nodup_bid1 _ | exact nodup_bid2 (by assumption))
        | ((first | refine fresh_tup ?_ | skip); (repeat (first | exact fresh_ss _ |  exact FreshA.sl _ _ FreshA_bs | exact FreshA.sl _ _ FreshA_is | exact FreshA.nils | exact FreshA.nilp | exact FreshA.int _ _ | exact FreshA.bool _ | exact FreshA.str _ | exact fresh_nil | refine fresh_cons ?_ ?_ | with_reducible refine fresh_aggR ?_ | with_reducible refine fresh_agg ?_ | with_reducible exact fresh_nilA | with_reducible refine fresh_consA ?_ ?_)); done)
        ))
        | ((conv => whnf) <;> (first
        | (with_reducible refine and_same ?_)
        | (with_reducible refine and_side ?_ ?_)
        | ((with_reducible apply Br.yes) ; (focus omega))
        | (with_reducible refine NOut.lit ?_)
        ))
        )
      all_goals (conv => whnf)
      all_goals (try dsimp only)
      exact ret_nilt rfl
    · rw [hwl]
      refine loop_at (α := Nat × AH × AV) (fun a => [(6, a.2.2), (7, .int .i64 (4 * a.1 : Nat))]) (fun a => a.2.1) (fun a => 4 * a.1 ≤ (allR s).length ∧ a.2.1[id]? = some { sz := 1, els := is (allR s) ++ sp, gen := gen, wr := true, pure := true } ∧ Own a.2.1 5 a.2.2 (ss (rd (allR s) a.1)) ∧ a.2.2.bid ≠ some id) (fun a => (allR s).length - 4 * a.1) (0, H1, .nils) ⟨by dsimp only; omega, hb, Own.nil _ _, by simp [AV.bid]⟩ rfl rfl ?_
      rintro ⟨k, σ, acc⟩ ⟨hk, hb1, hacc, hd⟩
      dsimp only at hk hb1 hacc hd ⊢
      have hrl := rd_length (allR s) k
      have hrs := ss_length (rd (allR s) k)
      by_cases hlt : 4 * k + 3 < (allR s).length
      · have g0 := wd4_some (W := allR s) (j := 4 * k + 0) (by omega)
        have g1 := wd4_some (W := allR s) (j := 4 * k + 1) (by omega)
        have g2 := wd4_some (W := allR s) (j := 4 * k + 2) (by omega)
        have q0 := hbd _ (List.mem_of_getElem? g0)
        have esk : sk (allR s) k = ⟨wd4 (allR s) (4 * k + 0) / 4, decide (2 ≤ wd4 (allR s) (4 * k + 0) % 4), decide (wd4 (allR s) (4 * k + 0) % 2 = 1), wd4 (allR s) (4 * k + 1), wd4 (allR s) (4 * k + 2)⟩ := rfl
        generalize wd4 (allR s) (4 * k + 0) = v0 at *
        generalize wd4 (allR s) (4 * k + 1) = v1 at *
        generalize wd4 (allR s) (4 * k + 2) = v2 at *
        rw [show 4 * k + 0 = (((4 * k : Nat) : Int)).toNat from by omega] at g0
        rw [show 4 * k + 1 = (((4 * k : Nat) : Int) + 1).toNat from by omega] at g1
        rw [show 4 * k + 2 = (((4 * k : Nat) : Int) + 2).toNat from by omega] at g2
        obtain ⟨m, rfl⟩ : ∃ m : Nat, v0 = m := ⟨v0.toNat, by omega⟩
        have hb4 : (2 ≤ (m : Int) % 4) ↔ m / 2 % 2 = 1 := by omega
        have hb2 : ((m : Int) % 2 = 1) ↔ m % 2 = 1 := by omega
        rw [decide_eq_decide.2 hb4, decide_eq_decide.2 hb2] at esk
        by_cases c1 : m / 2 % 2 = 1 <;> by_cases c2 : m % 2 = 1
        · rw [decide_eq_true c1, decide_eq_true c2] at esk
          repeat' (first
            | ((with_reducible refine Side.intro ?_) <;> (first
            | omega
            | exact Nat.le_of_ble_eq_true rfl
            | exact rfl
            ))
            | ((conv => whnf) <;> (first
            | (with_reducible refine and_same ?_)
            | (with_reducible refine and_side ?_ ?_)
            | ((with_reducible apply Br.yes) ; (focus omega))
            | ((with_reducible apply blkAt_intro) ; (focus (first
            | ((repeat (first
            | assumption
            | exact get_new
            )); done)
            )) ; (focus (first | rfl | assumption | omega)) ; (try dsimp only))
            | ((with_reducible apply nthR_is1) ; (focus assumption))
            | (with_reducible refine IaW.of ?_)
            | (with_reducible refine nthR_z ?_)
            | ((with_reducible apply nthR_left) ; (focus (first | omega | (simp only [List.length_append, List.length_cons, List.length_nil, List.length_take, List.length_drop, bs_length]; omega))))
            | (with_reducible refine lenR_rsl ?_)
            | (with_reducible refine rowsR_rsl ?_)
            ))
            )
          all_goals (conv => whnf)
          all_goals (try dsimp only)
          refine appendR_own (rows := ss (rd (allR s) k)) (hacc.keepN (by (repeat (first
                | exact Gr.refl _ _
                | refine Gr.addN ?_ _
                )))) (by rw [hrs, hrl]; simp only [List.length_take, List.length_drop, List.length_set, List.length_replicate]; omega) ?_
          intro acc' σ' ho' hg' hb'
          have hb2 := hg'.2 id _ (get_old hb1) hd
          have hd2 : acc'.bid ≠ some id := by
            rcases hb' with q | q
            · rw [q]; exact hd
            · rw [q]
              have := (List.getElem?_eq_some_iff.1 hb1).1
              intro e
              have := Option.some.inj e
              simp only [newB_length] at this
              omega
          repeat' (first
            | ((conv => whnf) <;> (first
            | (with_reducible refine and_same ?_)
            | ((with_reducible apply Br.yes) ; (focus omega))
            ))
            )
          all_goals (conv => whnf)
          all_goals (try dsimp only)
          refine ⟨(k + 1, σ', acc'), ?_, rfl, ⟨by dsimp only; omega, hb2, ?_, hd2⟩, by dsimp only; omega⟩
          · dsimp only
            rw [show ((4 * (k + 1) : Nat) : Int) = ((4 * k : Nat) : Int) + 4 from by omega]
            rfl
          · dsimp only
            rw [rd_succ, esk, ← ss_append]
            exact ho'
        · rw [decide_eq_true c1, decide_eq_false c2] at esk
          repeat' (first
            | ((with_reducible refine Side.intro ?_) <;> (first
            | omega
            | exact Nat.le_of_ble_eq_true rfl
            | exact rfl
            ))
            | ((conv => whnf) <;> (first
            | (with_reducible refine and_same ?_)
            | (with_reducible refine and_side ?_ ?_)
            | ((with_reducible apply Br.yes) ; (focus omega))
            | ((with_reducible apply Br.no) ; (focus omega))
            | ((with_reducible apply blkAt_intro) ; (focus (first
            | ((repeat (first
            | assumption
            | exact get_new
            )); done)
            )) ; (focus (first | rfl | assumption | omega)) ; (try dsimp only))
            | ((with_reducible apply nthR_is1) ; (focus assumption))
            | (with_reducible refine IaW.of ?_)
            | (with_reducible refine nthR_z ?_)
            | ((with_reducible apply nthR_left) ; (focus (first | omega | (simp only [List.length_append, List.length_cons, List.length_nil, List.length_take, List.length_drop, bs_length]; omega))))
            | (with_reducible refine lenR_rsl ?_)
            | (with_reducible refine rowsR_rsl ?_)
            ))
            )
          all_goals (conv => whnf)
          all_goals (try dsimp only)
          refine appendR_own (rows := ss (rd (allR s) k)) (hacc.keepN (by (repeat (first
                | exact Gr.refl _ _
                | refine Gr.addN ?_ _
                )))) (by rw [hrs, hrl]; simp only [List.length_take, List.length_drop, List.length_set, List.length_replicate]; omega) ?_
          intro acc' σ' ho' hg' hb'
          have hb2 := hg'.2 id _ (get_old hb1) hd
          have hd2 : acc'.bid ≠ some id := by
            rcases hb' with q | q
            · rw [q]; exact hd
            · rw [q]
              have := (List.getElem?_eq_some_iff.1 hb1).1
              intro e
              have := Option.some.inj e
              simp only [newB_length] at this
              omega
          repeat' (first
            | ((conv => whnf) <;> (first
            | (with_reducible refine and_same ?_)
            | ((with_reducible apply Br.yes) ; (focus omega))
            ))
            )
          all_goals (conv => whnf)
          all_goals (try dsimp only)
          refine ⟨(k + 1, σ', acc'), ?_, rfl, ⟨by dsimp only; omega, hb2, ?_, hd2⟩, by dsimp only; omega⟩
          · dsimp only
            rw [show ((4 * (k + 1) : Nat) : Int) = ((4 * k : Nat) : Int) + 4 from by omega]
            rfl
          · dsimp only
            rw [rd_succ, esk, ← ss_append]
            exact ho'
        · rw [decide_eq_false c1, decide_eq_true c2] at esk
          repeat' (first
            | ((with_reducible refine Side.intro ?_) <;> (first
            | omega
            | exact Nat.le_of_ble_eq_true rfl
            | exact rfl
            ))
            | ((conv => whnf) <;> (first
            | (with_reducible refine and_same ?_)
            | (with_reducible refine and_side ?_ ?_)
            | ((with_reducible apply Br.yes) ; (focus omega))
            | ((with_reducible apply Br.no) ; (focus omega))
            | ((with_reducible apply blkAt_intro) ; (focus (first
            | ((repeat (first
            | assumption
            | exact get_new
            )); done)
            )) ; (focus (first | rfl | assumption | omega)) ; (try dsimp only))
            | ((with_reducible apply nthR_is1) ; (focus assumption))
            | (with_reducible refine IaW.of ?_)
            | (with_reducible refine nthR_z ?_)
            | ((with_reducible apply nthR_left) ; (focus (first | omega | (simp only [List.length_append, List.length_cons, List.length_nil, List.length_take, List.length_drop, bs_length]; omega))))
            | (with_reducible refine lenR_rsl ?_)
            | (with_reducible refine rowsR_rsl ?_)
            ))
            )
          all_goals (conv => whnf)
          all_goals (try dsimp only)
          refine appendR_own (rows := ss (rd (allR s) k)) (hacc.keepN (by (repeat (first
                | exact Gr.refl _ _
                | refine Gr.addN ?_ _
                )))) (by rw [hrs, hrl]; simp only [List.length_take, List.length_drop, List.length_set, List.length_replicate]; omega) ?_
          intro acc' σ' ho' hg' hb'
          have hb2 := hg'.2 id _ (get_old hb1) hd
          have hd2 : acc'.bid ≠ some id := by
            rcases hb' with q | q
            · rw [q]; exact hd
            · rw [q]
              have := (List.getElem?_eq_some_iff.1 hb1).1
              intro e
              have := Option.some.inj e
              simp only [newB_length] at this
              omega
          repeat' (first
            | ((conv => whnf) <;> (first
            | (with_reducible refine and_same ?_)
            | ((with_reducible apply Br.yes) ; (focus omega))
            ))
            )
          all_goals (conv => whnf)
          all_goals (try dsimp only)
          refine ⟨(k + 1, σ', acc'), ?_, rfl, ⟨by dsimp only; omega, hb2, ?_, hd2⟩, by dsimp only; omega⟩
          · dsimp only
            rw [show ((4 * (k + 1) : Nat) : Int) = ((4 * k : Nat) : Int) + 4 from by omega]
            rfl
          · dsimp only
            rw [rd_succ, esk, ← ss_append]
            exact ho'
        · rw [decide_eq_false c1, decide_eq_false c2] at esk
          repeat' (first
            | ((with_reducible refine Side.intro ?_) <;> (first
            | omega
            | exact Nat.le_of_ble_eq_true rfl
            | exact rfl
            ))
            | ((conv => whnf) <;> (first
            | (with_reducible refine and_same ?_)
            | (with_reducible refine and_side ?_ ?_)
            | ((with_reducible apply Br.yes) ; (focus omega))
            | ((with_reducible apply Br.no) ; (focus omega))
            | ((with_reducible apply blkAt_intro) ; (focus (first
            | ((repeat (first
            | assumption
            | exact get_new
            )); done)
            )) ; (focus (first | rfl | assumption | omega)) ; (try dsimp only))
            | ((with_reducible apply nthR_is1) ; (focus assumption))
            | (with_reducible refine IaW.of ?_)
            | (with_reducible refine nthR_z ?_)
            | ((with_reducible apply nthR_left) ; (focus (first | omega | (simp only [List.length_append, List.length_cons, List.length_nil, List.length_take, List.length_drop, bs_length]; omega))))
            | (with_reducible refine lenR_rsl ?_)
            | (with_reducible refine rowsR_rsl ?_)
            ))
            )
          all_goals (conv => whnf)
          all_goals (try dsimp only)
          refine appendR_own (rows := ss (rd (allR s) k)) (hacc.keepN (by (repeat (first
                | exact Gr.refl _ _
                | refine Gr.addN ?_ _
                )))) (by rw [hrs, hrl]; simp only [List.length_take, List.length_drop, List.length_set, List.length_replicate]; omega) ?_
          intro acc' σ' ho' hg' hb'
          have hb2 := hg'.2 id _ (get_old hb1) hd
          have hd2 : acc'.bid ≠ some id := by
            rcases hb' with q | q
            · rw [q]; exact hd
            · rw [q]
              have := (List.getElem?_eq_some_iff.1 hb1).1
              intro e
              have := Option.some.inj e
              simp only [newB_length] at this
              omega
          repeat' (first
            | ((conv => whnf) <;> (first
            | (with_reducible refine and_same ?_)
            | ((with_reducible apply Br.yes) ; (focus omega))
            ))
            )
          all_goals (conv => whnf)
          all_goals (try dsimp only)
          refine ⟨(k + 1, σ', acc'), ?_, rfl, ⟨by dsimp only; omega, hb2, ?_, hd2⟩, by dsimp only; omega⟩
          · dsimp only
            rw [show ((4 * (k + 1) : Nat) : Int) = ((4 * k : Nat) : Int) + 4 from by omega]
            rfl
          · dsimp only
            rw [rd_succ, esk, ← ss_append]
            exact ho'
      · have hkk : k = (allR s).length / 4 := by omega
        subst hkk
        rw [← eL] at hacc hrl hrs
        repeat' (first
          | ((conv => whnf) <;> (first
          | (with_reducible refine and_same ?_)
          | ((with_reducible apply Br.yes) ; (focus omega))
          | ((with_reducible apply Br.no) ; (focus omega))
          | ((with_reducible apply blkAt_intro) ; (focus (first
          | ((repeat (first
          | assumption
          )); done)
          )) ; (focus (first | rfl | assumption | omega)) ; (try dsimp only))
          | (with_reducible refine lenR_rsl ?_)
          ))
          )
        all_goals (conv => whnf)
        all_goals (try dsimp only)
        refine RBytes8_call (rdL s) (by omega) (Looks.ownss hacc) fun H2 y hg2 hy hn2 => ?_
        cases ho : okL (rdL s)
        · obtain ⟨r1, r2⟩ := rdOk_no ho
          rw [r1, r2, show btE (rdL s) = 1 from by simp [btE, ho]]
          repeat' (first
            | ((with_reducible refine Side.intro ?_) <;> (first
            | (simp only [List.append_nil, List.nil_append, List.map_nil]; first | exact List.nodup_nil | exact nodup_bid1 _ | exact nodup_bid2 (by assumption))
            | ((first | refine fresh_tup ?_ | skip); (repeat (first | exact fresh_ss _ |  exact FreshA.sl _ _ FreshA_bs | exact FreshA.sl _ _ FreshA_is | exact FreshA.nils | exact FreshA.nilp | exact FreshA.int _ _ | exact FreshA.bool _ | exact FreshA.str _ | exact fresh_nil | refine fresh_cons ?_ ?_ | with_reducible refine fresh_aggR ?_ | with_reducible refine fresh_agg ?_ | with_reducible exact fresh_nilA | with_reducible refine fresh_consA ?_ ?_)); done)
            ))
            | ((conv => whnf) <;> (first
            | (with_reducible refine and_same ?_)
            | (with_reducible refine and_side ?_ ?_)
            | ((with_reducible apply Br.yes) ; (focus omega))
            | (with_reducible refine NOut.lit ?_)
            ))
            )
          all_goals (conv => whnf)
          all_goals (try dsimp only)
          exact ret_nilt rfl
        · rw [show btE (rdL s) = 0 from by simp [btE, ho]]
          have hbl := btR_length ho
          by_cases he : btR (rdL s) = s
          · obtain ⟨r1, r2⟩ := rdOk_yes hlen.1 ho he
            rw [he] at hy
            have hss : ¬ s ≠ s := fun e => e rfl
            rw [r1, r2]
            replace hacc := hacc.keepN hg2
            repeat' (first
              | ((with_reducible refine Side.intro ?_) <;> (first
              | (simp only [List.append_nil, List.nil_append, List.map_nil]; first | exact List.nodup_nil | exact nodup_bid1 _ | exact nodup_bid2 (by assumption))
              | ((first | refine fresh_tup ?_ | skip); (repeat (first | exact fresh_ss _ |  exact FreshA.sl _ _ FreshA_bs | exact FreshA.sl _ _ FreshA_is | exact FreshA.nils | exact FreshA.nilp | exact FreshA.int _ _ | exact FreshA.bool _ | exact FreshA.str _ | exact fresh_nil | refine fresh_cons ?_ ?_ | with_reducible refine fresh_aggR ?_ | with_reducible refine fresh_agg ?_ | with_reducible exact fresh_nilA | with_reducible refine fresh_consA ?_ ?_)); done)
              ))
              | ((conv => whnf) <;> (first
              | (with_reducible refine and_same ?_)
              | (with_reducible refine and_side ?_ ?_)
              | ((with_reducible apply Br.no) ; (focus omega))
              | ((with_reducible apply rowsR_own) ; (focus assumption))
              | ((with_reducible apply NOut.own) ; (focus assumption))
              | (with_reducible refine NOut.lit ?_)
              | (with_reducible refine rowsR_sl ?_)
              | ((with_reducible apply bytesR_intro) ; (focus (first | rfl | (simp only [bs_take, bs_drop, bs_append]; rfl))))
              ))
              )
            all_goals (conv => whnf)
            all_goals (try dsimp only)
            exact ret_same rfl
          · obtain ⟨r1, r2⟩ := rdOk_ne he
            rw [r1, r2]
            repeat' (first
              | ((with_reducible refine Side.intro ?_) <;> (first
              | (simp only [List.append_nil, List.nil_append, List.map_nil]; first | exact List.nodup_nil | exact nodup_bid1 _ | exact nodup_bid2 (by assumption))
              | ((first | refine fresh_tup ?_ | skip); (repeat (first | exact fresh_ss _ |  exact FreshA.sl _ _ FreshA_bs | exact FreshA.sl _ _ FreshA_is | exact FreshA.nils | exact FreshA.nilp | exact FreshA.int _ _ | exact FreshA.bool _ | exact FreshA.str _ | exact fresh_nil | refine fresh_cons ?_ ?_ | with_reducible refine fresh_aggR ?_ | with_reducible refine fresh_agg ?_ | with_reducible exact fresh_nilA | with_reducible refine fresh_consA ?_ ?_)); done)
              ))
              | ((conv => whnf) <;> (first
              | (with_reducible refine and_same ?_)
              | (with_reducible refine and_side ?_ ?_)
              | ((with_reducible apply Br.yes) ; (focus omega))
              | ((with_reducible apply Br.no) ; (focus omega))
              | ((with_reducible apply rowsR_own) ; (focus assumption))
              | (with_reducible refine NOut.lit ?_)
              | (with_reducible refine rowsR_sl ?_)
              | ((with_reducible apply bytesR_intro) ; (focus (first | rfl | (simp only [bs_take, bs_drop, bs_append]; rfl))))
              ))
              )
            all_goals (conv => whnf)
            all_goals (try dsimp only)
            exact ret_nilt rfl
  · obtain ⟨r1, r2⟩ := rdOk_lg2 hlen
    rw [r1, r2]
    repeat' (first
      | ((with_reducible refine Side.intro ?_) <;> (first
      | omega
      | (simp only [List.append_nil, List.nil_append, List.map_nil]; first | exact List.nodup_nil | exact nodup_bid1 _ | exact nodup_bid2 (by assumption))
      | ((first | refine fresh_tup ?_ | skip); (repeat (first | exact fresh_ss _ |  exact FreshA.sl _ _ FreshA_bs | exact FreshA.sl _ _ FreshA_is | exact FreshA.nils | exact FreshA.nilp | exact FreshA.int _ _ | exact FreshA.bool _ | exact FreshA.str _ | exact fresh_nil | refine fresh_cons ?_ ?_ | with_reducible refine fresh_aggR ?_ | with_reducible refine fresh_agg ?_ | with_reducible exact fresh_nilA | with_reducible refine fresh_consA ?_ ?_)); done)
      ))
      | ((conv => whnf) <;> (first
      | (with_reducible refine and_same ?_)
      | (with_reducible refine and_side ?_ ?_)
      | ((with_reducible apply Br.yes) ; (focus omega))
      | (with_reducible refine Br.mk (fun _ => ?_) (fun _ => ?_))
      | (with_reducible refine NOut.lit ?_)
      | (with_reducible refine lenR_sl ?_)
      ))
      )
    all_goals (conv => whnf)
    all_goals (try dsimp only)
    all_goals first
      | omega
      | exact ret_nilt rfl
theorem RRead8_call (s : List UInt8) (hs : s.length ≤ 4611686018) {σ : AH} {x : AV} (hx : Looks σ x (.sl 1 (bs s) false)) {Q : AV → AH → Prop} (h : ∀ σ' y, Gr σ σ' none → Own σ' 5 y (ss (rdR s)) → New σ y → Q (.tup [y, .bool (rdOk s)]) σ') : CallS Try.prog F.joistref08_Read [x] σ Q :=
  call_sl1 (RRead_ok8 s hs) (.cons hx .nil) rfl h
end Go.Proofs.Ytbmocdcfcdmmkaa
