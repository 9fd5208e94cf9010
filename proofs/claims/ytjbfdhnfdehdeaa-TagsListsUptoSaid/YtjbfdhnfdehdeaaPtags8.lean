import Derived.Test.YtjbfdhnfdehdeaaPtags7
namespace Go.Proofs.Ytjbfdhnfdehdeaa
open Go Go.Proofs.Ytjbfdhnfdehdeaa.V
set_option maxRecDepth 20000
attribute [local irreducible] CallS AOK AOKn ALoop Side Ref.ok
theorem ret_nil12 {a : AV} {s1 s2 : Nat} {b1 b2 : Bool} : ∃ y0, NilR (.tup [.nils, .nils, a]) y0 ∧ y0 = .tup [.sl s1 [] b1, .sl s2 [] b2, a] :=
  ⟨_, .tup (.cons (.nil _ _) (.cons (.nil _ _) (.cons (.refl _) .nil))), rfl⟩
set_option maxHeartbeats 4000000 in
theorem RRead_ok (fr to : Int) (b : List UInt8) (hs : List Int) (hb : b.length ≤ 4611686018) (hhs : hs.length ≤ 4611686018) : AOKn Try.prog F.joistref11_Read [.int .i64 fr, .int .i64 to, .sl 1 (bs b) false, .sl 1 (is hs) false] fun y => y = .tup [.sl 3 (bk (trU fr to b hs)) true, .sl 1 (datT (trD fr to b hs)) true, .bool (trOk fr to b hs)] := by
  have hbn := bs_length b
  refine AOKn.by_steps mixed fc_joistref11_Read_ok (by simp [fc_joistref11_Read]) ?_
  skip
  all_goals (conv => whnf)
  all_goals (try dsimp only)
  refine ref10_Right_call fr to [] (by simp) (Looks.nilsp _) fun H1 hg1 => ?_
  rw [rG_nil]
  cases hB : bG fr to
  · have h0 : trOk fr to b hs = false := by rw [trOk, hB]; rfl
    rw [(tr_no h0).1, (tr_no h0).2, h0]
    repeat' (first
      | ((with_reducible refine Side.intro ?_) <;> (first
      | (simp only [List.append_nil, List.nil_append, List.map_nil]; first | exact List.nodup_nil | exact nodup_bid1 _ | exact nodup_bid2 (by assumption))
      | ((first | refine fresh_tup ?_ | skip); (repeat (first | exact fresh_sp _ | exact fresh_bk _ | exact fresh_datT _ |  exact FreshA.sl _ _ FreshA_bs | exact FreshA.sl _ _ FreshA_is | exact FreshA.nils | exact FreshA.nilp | exact FreshA.int _ _ | exact FreshA.bool _ | exact FreshA.str _ | exact fresh_nil | refine fresh_cons ?_ ?_ | with_reducible refine fresh_aggR ?_ | with_reducible refine fresh_agg ?_ | with_reducible exact fresh_nilA | with_reducible refine fresh_consA ?_ ?_)); done)
      ))
      | ((conv => whnf) <;> (first
      | (with_reducible refine and_side ?_ ?_)
      | (with_reducible refine NOut.lit ?_)
      ))
      )
    all_goals (conv => whnf)
    all_goals (try dsimp only)
    exact ret_nil12
  · obtain ⟨b1, b2, b3, b4, b5⟩ := bG_iff.1 hB
    by_cases hlen : (b.length : Int) = (to - fr) * 8
    · obtain ⟨w1, w2, w3⟩ := tr_bd (b := b) b1 b3
      have hwd : ∀ d, d ∈ (trW fr to b).2.1 → d.length ≤ 4611686018 := fun d hd => by have := w3 d hd; omega
      have eO : trOk fr to b hs = (rT fr to (trW fr to b).1 (trW fr to b).2.1 && (decide (twR fr to (trW fr to b).1 (trW fr to b).2.1 = b) && decide (twH fr to (trW fr to b).1 (trW fr to b).2.1 = hs))) := by rw [trOk, hB, decide_eq_true hlen, Bool.true_and, Bool.true_and]
      repeat' (first
        | ((conv => whnf) <;> (first
        | (with_reducible refine and_same ?_)
        | ((with_reducible apply Br.yes) ; (focus omega))
        | ((with_reducible apply Br.no) ; (focus omega))
        | (with_reducible refine lenR_sl ?_)
        ))
        )
      all_goals (conv => whnf)
      all_goals (try dsimp only)
      refine loop_at (α := Int × AH × AV × AV × List (Int × Int × Int) × List (List UInt8)) (fun a => [(12, a.2.2.1), (13, a.2.2.2.1), (14, .int .i64 a.1)]) (fun a => a.2.1) (fun a => fr ≤ a.1 ∧ a.1 ≤ to ∧ a.2.2.2.2.1 ++ (wkA fr to b a.1).1 = (trW fr to b).1 ∧ a.2.2.2.2.2 ++ (wkA fr to b a.1).2.1 = (trW fr to b).2.1 ∧ (wkA fr to b a.1).2.2 = (trW fr to b).2.2 ∧ Own a.2.1 3 a.2.2.1 (bk a.2.2.2.2.1) ∧ Own a.2.1 1 a.2.2.2.1 (datT a.2.2.2.2.2) ∧ (a.2.2.1.bid = none ∨ a.2.2.1.bid ≠ a.2.2.2.1.bid)) (fun a => (to - a.1).toNat) (fr, H1, .nils, .nils, [], []) ⟨Int.le_refl _, b2, rfl, rfl, rfl, Own.nil _ _, Own.nil _ _, .inl rfl⟩ rfl rfl ?_
      rintro ⟨at', σ, ua, da, aU, aD⟩ ⟨ha0, ha1, heU, heD, heB, hua, hda, hud⟩
      dsimp only at ha0 ha1 heU heD heB hua hda hud ⊢
      by_cases hlt : at' < to
      · have hgv := getV_bd b (at' - fr)
        have htg : ((getV b (at' - fr) : Nat) : Int) = tagAt b fr at' := rfl
        have htg0 : 0 ≤ tagAt b fr at' := by rw [← htg]; omega
        have htg1 : tagAt b fr at' < 4611686018427387904 := by rw [← htg]; omega
        repeat' (first
          | ((conv => whnf) <;> (first
          | (with_reducible refine and_same ?_)
          | ((with_reducible apply Br.yes) ; (focus omega))
          ))
          )
        all_goals (conv => whnf)
        all_goals (try dsimp only)
        refine RGet_call b (at' - fr) (by omega) (.bs _ _ _) fun σ0 hg0 => ?_
        rw [htg]
        replace hua := hua.keepN hg0
        replace hda := hda.keepN hg0
        clear hg0
        generalize σ0 = σ at *
        cases hbad : tagBad b fr to at'
        · have ht := tag_ok hbad
          have hlU := congrArg List.length heU
          rw [List.length_append] at hlU
          have hlD := congrArg List.length heD
          rw [List.length_append] at hlD
          have hbkl := bk_length aU
          have hdtl := datT_length aD
          by_cases hx : tagAt b fr at' % 64 > 0
          · have hw := wkA_used hlt hbad hx
            have hdl := dta_length (b := b) (s := tagAt b fr at' / 64) hlen ha0 ht.1 ht.2
            have hcut : List.drop (8 * (at' - fr + 1)).toNat (List.take (8 * (at' - fr + tagAt b fr at' / 64 - 1)).toNat (bs b)) = bs (dta b fr at' (tagAt b fr at' / 64)) := by
              rw [bs_take, bs_drop, List.drop_take]
              unfold dta cut8
              rw [show (8 * (at' - fr + 1)).toNat = off fr (at' + 1) from by unfold off; omega, show (8 * (at' - fr + tagAt b fr at' / 64 - 1)).toNat - off fr (at' + 1) = (8 * (tagAt b fr at' / 64 - 2)).toNat from by unfold off; omega]
            generalize hd8 : dta b fr at' (tagAt b fr at' / 64) = d8 at *
            generalize hT : tagAt b fr at' = T at *
            repeat' (first
              | ((with_reducible refine Side.intro ?_) <;> (first
              | omega
              | exact Nat.le_of_ble_eq_true rfl
              | exact rfl
              ))
              | ((conv => whnf) <;> (first
              | (with_reducible refine and_same ?_)
              | (with_reducible refine and_side ?_ ?_)
              | ((with_reducible apply Br.yes) ; (focus omega))
              | ((with_reducible apply Br.no) ; (focus omega))
              | ((with_reducible apply blkAt_intro) ; (focus (first
              | ((repeat (first
              | exact get_new
              )); done)
              )) ; (focus (first | rfl | assumption | omega)) ; (try dsimp only))
              | (with_reducible refine AppC.frz ?_)
              | (with_reducible refine rowsR_rsl ?_)
              ))
              )
            all_goals (conv => whnf)
            all_goals (try dsimp only)
            refine appendR_own (rows := bk aU) (hua.keepN (by (repeat (first
                  | exact Gr.refl _ _
                  | refine Gr.addN ?_ _
                  )))) (by simp only [List.length_take, List.length_drop, List.length_set, List.length_replicate]; omega) ?_
            intro ua' σ1 hua' hg1' hb1'
            repeat' (first
              | ((with_reducible refine Side.intro ?_) <;> (first
              | omega
              | exact Nat.le_of_ble_eq_true rfl
              | (simp only [bs_length, List.length_append, List.length_cons, List.length_nil, List.length_take, List.length_drop, List.length_set, List.length_replicate]; omega)
              | exact rfl
              ))
              | ((conv => whnf) <;> (first
              | (with_reducible refine and_same ?_)
              | (with_reducible refine and_side ?_ ?_)
              | ((with_reducible apply Br.yes) ; (focus omega))
              | ((with_reducible apply blkAt_intro) ; (focus (first
              | ((repeat (first
              | exact get_new
              | exact get_set get_new
              | apply get_old
              )); done)
              )) ; (focus (first | rfl | assumption | omega)) ; (try dsimp only))
              | ((with_reducible apply appendR_lit) ; (focus (first
              | ((repeat (first
              | exact get_new
              )); done)
              )) ; (focus (first | rfl | assumption)) ; (focus rfl) ; (focus rfl) ; (focus rfl) ; (focus (first | exact Nat.zero_le _ | omega | (simp; done) | (simp; omega))) ; (try dsimp only))
              | (with_reducible refine SliceW.of ?_)
              | (with_reducible refine AppC.frz ?_)
              | (with_reducible refine rowsR_sl ?_)
              | (with_reducible refine rowsR_rsl ?_)
              ))
              )
            all_goals (conv => whnf)
            all_goals (try dsimp only)
            have hda1 : Own σ1 1 da (datT aD) := Own.keep hg1' (Own.keepN (by (repeat (first
                  | exact Gr.refl _ _
                  | refine Gr.addN ?_ _
                  ))) hda) (disj_keep hud)
            have et : List.take (0 + (bs d8).length) (List.drop 0 (List.take 0 (List.replicate 0 [AV.int IntKind.u8 0]) ++ bs d8)) = bs d8 := by
              rw [List.drop_zero, List.take_zero, List.nil_append, Nat.zero_add, List.take_length]
            rw [hcut, et]
            have l01 := hg1'.1
            simp only [newB_length] at l01
            have D1 : ua'.bid = none ∨ ua'.bid ≠ da.bid := by
              rcases hb1' with q | q
              · rw [q]; exact hud
              · right
                rw [q]
                intro e
                have := hda.lt e.symm
                simp only [newB_length] at this
                omega
            refine appendR_own (rows := datT aD) (hda1.keepN (by (repeat (first
                  | exact Gr.refl _ _
                  | refine Gr.setNew ?_ (by first | exact Nat.le_refl _ | (simp only [newB_length, List.length_set, List.length_append, List.length_singleton]; omega) | omega) _
                  | refine Gr.addN ?_ _
                  )))) (by simp only [List.length_cons, List.length_nil]; omega) ?_
            intro da' σ4 hda' hg4' hb4'
            have hua4 := Own.keep hg4' (hua'.keepN (by (repeat (first
                  | exact Gr.refl _ _
                  | refine Gr.setNew ?_ (by first | exact Nat.le_refl _ | (simp only [newB_length, List.length_set, List.length_append, List.length_singleton]; omega) | omega) _
                  | refine Gr.addN ?_ _
                  )))) (disj_keep (disj_symm D1))
            have D2 : ua'.bid = none ∨ ua'.bid ≠ da'.bid := by
              rcases hb4' with q | q
              · rw [q]; exact D1
              · right
                rw [q]
                intro e
                have := hua'.lt e
                simp only [newB_length, List.length_set] at this
                omega
            repeat' (first
              | ((conv => whnf) <;> (first
              | (with_reducible refine and_same ?_)
              | ((with_reducible apply Br.yes) ; (focus omega))
              ))
              )
            all_goals (conv => whnf)
            all_goals (try dsimp only)
            refine ⟨(at' + T / 64, σ4, ua', da', aU ++ [(at', T / 64, T % 64 - 1)], aD ++ [d8]), rfl, rfl, ⟨by dsimp only; omega, by dsimp only; omega, ?_, ?_, ?_, ?_, ?_, D2⟩, by dsimp only; omega⟩
            · dsimp only
              rw [hw] at heU
              rw [List.append_assoc]; exact heU
            · dsimp only
              rw [hw] at heD
              rw [List.append_assoc]; exact heD
            · dsimp only
              rw [hw] at heB
              exact heB
            · dsimp only
              rw [bk_append]; exact hua4
            · dsimp only
              rw [datT_append]; exact hda'
          · have hw := wkA_free hlt hbad hx
            generalize hT : tagAt b fr at' = T at *
            repeat' (first
              | ((with_reducible refine Side.intro ?_) <;> (first
              | omega
              ))
              | ((conv => whnf) <;> (first
              | (with_reducible refine and_same ?_)
              | (with_reducible refine and_side ?_ ?_)
              | ((with_reducible apply Br.yes) ; (focus omega))
              | ((with_reducible apply Br.no) ; (focus omega))
              ))
              )
            all_goals (conv => whnf)
            all_goals (try dsimp only)
            refine ⟨(at' + T / 64, σ, ua, da, aU, aD), rfl, rfl, ⟨by dsimp only; omega, by dsimp only; omega, by dsimp only; rw [← hw]; exact heU, by dsimp only; rw [← hw]; exact heD, by dsimp only; rw [← hw]; exact heB, hua, hda, hud⟩, by dsimp only; omega⟩
        · have hw := wkA_bad hlt hbad
          rw [hw] at heB
          have h0 : trOk fr to b hs = false := by
            cases q : trOk fr to b hs
            · rfl
            · obtain ⟨_, _, q3, q4, _⟩ := trOk_iff.1 q
              rw [tr_done q3 q4] at heB
              cases heB
          rw [(tr_no h0).1, (tr_no h0).2, h0]
          simp only [tagBad, decide_eq_true_eq] at hbad
          generalize hT : tagAt b fr at' = T at *
          repeat' (first
            | ((with_reducible refine Side.intro ?_) <;> (first
            | omega
            | (simp only [List.append_nil, List.nil_append, List.map_nil]; first | exact List.nodup_nil | exact nodup_bid1 _ | exact nodup_bid2 (by assumption))
            | ((first | refine fresh_tup ?_ | skip); (repeat (first | exact fresh_sp _ | exact fresh_bk _ | exact fresh_datT _ |  exact FreshA.sl _ _ FreshA_bs | exact FreshA.sl _ _ FreshA_is | exact FreshA.nils | exact FreshA.nilp | exact FreshA.int _ _ | exact FreshA.bool _ | exact FreshA.str _ | exact fresh_nil | refine fresh_cons ?_ ?_ | with_reducible refine fresh_aggR ?_ | with_reducible refine fresh_agg ?_ | with_reducible exact fresh_nilA | with_reducible refine fresh_consA ?_ ?_)); done)
            ))
            | ((conv => whnf) <;> (first
            | (with_reducible refine and_same ?_)
            | (with_reducible refine and_side ?_ ?_)
            | ((with_reducible apply Br.yes) ; (focus omega))
            | (with_reducible refine Br.mk (fun _ => ?_) (fun _ => ?_))
            | (with_reducible refine NOut.lit ?_)
            ))
            )
          all_goals (conv => whnf)
          all_goals (try dsimp only)
          all_goals first
            | omega
            | exact ret_nil12
      · have hw := wkA_end (b := b) (fr := fr) (to := to) (at' := at') (by omega)
        rw [hw, List.append_nil] at heU heD
        subst heU
        subst heD
        repeat' (first
          | ((conv => whnf) <;> (first
          | (with_reducible refine and_same ?_)
          | ((with_reducible apply Br.no) ; (focus omega))
          ))
          )
        all_goals (conv => whnf)
        all_goals (try dsimp only)
        refine RWrite_call fr to (trW fr to b).1 (trW fr to b).2.1 (by omega) (by omega) hwd (Looks.ownbk hua) (Looks.owndat hda) fun H6 y h6 hg6 hy hh6 hyn hhn hyh => ?_
        cases hw : rT fr to (trW fr to b).1 (trW fr to b).2.1
        · have h0 : trOk fr to b hs = false := by rw [eO, hw]; rfl
          rw [show twE fr to (trW fr to b).1 (trW fr to b).2.1 = 1 from by rw [twE, hw]; rfl, (tr_no h0).1, (tr_no h0).2, h0]
          repeat' (first
            | ((with_reducible refine Side.intro ?_) <;> (first
            | (simp only [List.append_nil, List.nil_append, List.map_nil]; first | exact List.nodup_nil | exact nodup_bid1 _ | exact nodup_bid2 (by assumption))
            | ((first | refine fresh_tup ?_ | skip); (repeat (first | exact fresh_sp _ | exact fresh_bk _ | exact fresh_datT _ |  exact FreshA.sl _ _ FreshA_bs | exact FreshA.sl _ _ FreshA_is | exact FreshA.nils | exact FreshA.nilp | exact FreshA.int _ _ | exact FreshA.bool _ | exact FreshA.str _ | exact fresh_nil | refine fresh_cons ?_ ?_ | with_reducible refine fresh_aggR ?_ | with_reducible refine fresh_agg ?_ | with_reducible exact fresh_nilA | with_reducible refine fresh_consA ?_ ?_)); done)
            ))
            | ((conv => whnf) <;> (first
            | (with_reducible refine and_same ?_)
            | (with_reducible refine and_side ?_ ?_)
            | ((with_reducible apply Br.yes) ; (focus omega))
            | (with_reducible refine NOut.lit ?_)
            ))
            )
          all_goals (conv => whnf)
          all_goals (try dsimp only)
          exact ret_nil12
        · rw [show twE fr to (trW fr to b).1 (trW fr to b).2.1 = 0 from by rw [twE, hw]; rfl]
          have hwl : (twR fr to (trW fr to b).1 (trW fr to b).2.1).length ≤ 4611686018 := by
            have := (rT_tg hw).imgl
            rw [twR, hw, if_pos rfl, this]; unfold off; omega
          have hhl : (twH fr to (trW fr to b).1 (trW fr to b).2.1).length ≤ 4611686018 := by rw [twH, hw, if_pos rfl]; simp [hdsL]
          by_cases he : twR fr to (trW fr to b).1 (trW fr to b).2.1 = b
          · rw [he] at hy
            have hself : ¬ (b ≠ b) := fun h => h rfl
            repeat' (first
              | ((conv => whnf) <;> (first
              | (with_reducible refine and_same ?_)
              | ((with_reducible apply Br.no) ; (focus omega))
              | ((with_reducible apply rowsR_own) ; (focus assumption))
              | (with_reducible refine rowsR_sl ?_)
              | ((with_reducible apply bytesR_intro) ; (focus (first | rfl | (simp only [bs_take, bs_drop, bs_append]; rfl))))
              ))
              )
            all_goals (conv => whnf)
            all_goals (try dsimp only)
            refine Same_call _ hs (by omega) (by omega) (Looks.ownis hh6) (Looks.isv _ _ _) fun H8 hg8 => ?_
            have g8 : Gr σ H8 none := hg6.trans hg8
            by_cases hhe : twH fr to (trW fr to b).1 (trW fr to b).2.1 = hs
            · have h0 : trOk fr to b hs = true := by rw [eO, hw, decide_eq_true he, decide_eq_true hhe]; rfl
              obtain ⟨r1, r2⟩ := tr_yes h0
              rw [decide_eq_true hhe, r1, r2, h0]
              replace hua := hua.keepN g8
              replace hda := hda.keepN g8
              have hnd : ∀ id, ua.bid = some id → da.bid ≠ some id := fun id h1 h2 => by
                rcases hud with q | q
                · rw [q] at h1; cases h1
                · exact q (by rw [h1, h2])
              repeat' (first
                | ((with_reducible refine Side.intro ?_) <;> (first
                | (simp only [List.append_nil, List.nil_append, List.map_nil]; first | exact List.nodup_nil | exact nodup_bid1 _ | exact nodup_bid2 (by assumption))
                | ((first | refine fresh_tup ?_ | skip); (repeat (first | exact fresh_sp _ | exact fresh_bk _ | exact fresh_datT _ |  exact FreshA.sl _ _ FreshA_bs | exact FreshA.sl _ _ FreshA_is | exact FreshA.nils | exact FreshA.nilp | exact FreshA.int _ _ | exact FreshA.bool _ | exact FreshA.str _ | exact fresh_nil | refine fresh_cons ?_ ?_ | with_reducible refine fresh_aggR ?_ | with_reducible refine fresh_agg ?_ | with_reducible exact fresh_nilA | with_reducible refine fresh_consA ?_ ?_)); done)
                ))
                | ((conv => whnf) <;> (first
                | (with_reducible refine and_side ?_ ?_)
                | ((with_reducible apply NOut.own) ; (focus assumption))
                | (with_reducible refine NOut.lit ?_)
                ))
                )
              all_goals (conv => whnf)
              all_goals (try dsimp only)
              all_goals first
                | exact ret_same rfl
                | trace_state
            · have h0 : trOk fr to b hs = false := by rw [eO, hw, decide_eq_true he, decide_eq_false hhe]; rfl
              rw [decide_eq_false hhe, (tr_no h0).1, (tr_no h0).2, h0]
              repeat' (first
                | ((with_reducible refine Side.intro ?_) <;> (first
                | (simp only [List.append_nil, List.nil_append, List.map_nil]; first | exact List.nodup_nil | exact nodup_bid1 _ | exact nodup_bid2 (by assumption))
                | ((first | refine fresh_tup ?_ | skip); (repeat (first | exact fresh_sp _ | exact fresh_bk _ | exact fresh_datT _ |  exact FreshA.sl _ _ FreshA_bs | exact FreshA.sl _ _ FreshA_is | exact FreshA.nils | exact FreshA.nilp | exact FreshA.int _ _ | exact FreshA.bool _ | exact FreshA.str _ | exact fresh_nil | refine fresh_cons ?_ ?_ | with_reducible refine fresh_aggR ?_ | with_reducible refine fresh_agg ?_ | with_reducible exact fresh_nilA | with_reducible refine fresh_consA ?_ ?_)); done)
                ))
                | ((conv => whnf) <;> (first
                | (with_reducible refine and_side ?_ ?_)
                | (with_reducible refine NOut.lit ?_)
                ))
                )
              all_goals (conv => whnf)
              all_goals (try dsimp only)
              exact ret_nil12
          · have h0 : trOk fr to b hs = false := by rw [eO, hw, decide_eq_false he]; rfl
            rw [(tr_no h0).1, (tr_no h0).2, h0]
            repeat' (first
              | ((with_reducible refine Side.intro ?_) <;> (first
              | (simp only [List.append_nil, List.nil_append, List.map_nil]; first | exact List.nodup_nil | exact nodup_bid1 _ | exact nodup_bid2 (by assumption))
              | ((first | refine fresh_tup ?_ | skip); (repeat (first | exact fresh_sp _ | exact fresh_bk _ | exact fresh_datT _ |  exact FreshA.sl _ _ FreshA_bs | exact FreshA.sl _ _ FreshA_is | exact FreshA.nils | exact FreshA.nilp | exact FreshA.int _ _ | exact FreshA.bool _ | exact FreshA.str _ | exact fresh_nil | refine fresh_cons ?_ ?_ | with_reducible refine fresh_aggR ?_ | with_reducible refine fresh_agg ?_ | with_reducible exact fresh_nilA | with_reducible refine fresh_consA ?_ ?_)); done)
              ))
              | ((conv => whnf) <;> (first
              | (with_reducible refine and_same ?_)
              | (with_reducible refine and_side ?_ ?_)
              | ((with_reducible apply Br.yes) ; (focus omega))
              | ((with_reducible apply Br.no) ; (focus omega))
              | ((with_reducible apply rowsR_own) ; (focus assumption))
              | (with_reducible refine NOut.lit ?_)
              | (with_reducible refine rowsR_sl ?_)
              | ((with_reducible apply bytesR_intro) ; (focus (first | rfl | (simp only [bs_take, bs_drop, bs_append]; rfl))))
              ))
              )
            all_goals (conv => whnf)
            all_goals (try dsimp only)
            exact ret_nil12
    · have h0 : trOk fr to b hs = false := by rw [trOk, decide_eq_false hlen, Bool.false_and, Bool.and_false]
      rw [(tr_no h0).1, (tr_no h0).2, h0]
      repeat' (first
        | ((with_reducible refine Side.intro ?_) <;> (first
        | (simp only [List.append_nil, List.nil_append, List.map_nil]; first | exact List.nodup_nil | exact nodup_bid1 _ | exact nodup_bid2 (by assumption))
        | ((first | refine fresh_tup ?_ | skip); (repeat (first | exact fresh_sp _ | exact fresh_bk _ | exact fresh_datT _ |  exact FreshA.sl _ _ FreshA_bs | exact FreshA.sl _ _ FreshA_is | exact FreshA.nils | exact FreshA.nilp | exact FreshA.int _ _ | exact FreshA.bool _ | exact FreshA.str _ | exact fresh_nil | refine fresh_cons ?_ ?_ | with_reducible refine fresh_aggR ?_ | with_reducible refine fresh_agg ?_ | with_reducible exact fresh_nilA | with_reducible refine fresh_consA ?_ ?_)); done)
        ))
        | ((conv => whnf) <;> (first
        | (with_reducible refine and_same ?_)
        | (with_reducible refine and_side ?_ ?_)
        | ((with_reducible apply Br.yes) ; (focus omega))
        | (with_reducible refine NOut.lit ?_)
        | (with_reducible refine lenR_sl ?_)
        ))
        )
      all_goals (conv => whnf)
      all_goals (try dsimp only)
      exact ret_nil12
theorem RRead_call (fr to : Int) (b : List UInt8) (hs : List Int) (hb : b.length ≤ 4611686018) (hhs : hs.length ≤ 4611686018) {σ : AH} {x z : AV} (hx : Looks σ x (.sl 1 (bs b) false)) (hz : Looks σ z (.sl 1 (is hs) false)) {Q : AV → AH → Prop}
    (h : ∀ σ' u d, Gr σ σ' none → Own σ' 3 u (bk (trU fr to b hs)) → Own σ' 1 d (datT (trD fr to b hs)) → Q (.tup [u, d, .bool (trOk fr to b hs)]) σ') : CallS Try.prog F.joistref11_Read [.int .i64 fr, .int .i64 to, x, z] σ Q := by
  refine (RRead_ok fr to b hs hb hhs).call (.cons (.int _ _ _) (.cons (.int _ _ _) (.cons hx (.cons hz .nil)))) ?_
  rintro _ x σ1 rfl hg hG
  obtain ⟨u, d, e, rfl, h1, h2, h3, _⟩ := hG.three
  obtain rfl := h3.same_inv rfl
  exact h σ1 u d hg h1.own_inv h2.own_inv
theorem BSame_ok (L M : List (Int × Int × Int)) (hL : L.length ≤ 4611686018427) (hM : M.length ≤ 4611686018427) : AOKn Try.prog F.joistref11_Same [.sl 3 (bk L) false, .sl 3 (bk M) false] fun y => y = .bool (decide (L = M)) := by
  have hm := bk_length L
  have hn := bk_length M
  refine AOKn.by_steps mixed fc_joistref11_Same_ok (by simp [fc_joistref11_Same]) ?_
  repeat' (first
    | ((with_reducible refine Side.intro ?_) <;> (first
    | (simp only [List.append_nil, List.nil_append, List.map_nil]; first | exact List.nodup_nil | exact nodup_bid1 _ | exact nodup_bid2 (by assumption))
    | ((first | refine fresh_tup ?_ | skip); (repeat (first | exact fresh_sp _ | exact fresh_bk _ | exact fresh_datT _ |  exact FreshA.sl _ _ FreshA_bs | exact FreshA.sl _ _ FreshA_is | exact FreshA.nils | exact FreshA.nilp | exact FreshA.int _ _ | exact FreshA.bool _ | exact FreshA.str _ | exact fresh_nil | refine fresh_cons ?_ ?_ | with_reducible refine fresh_aggR ?_ | with_reducible refine fresh_agg ?_ | with_reducible exact fresh_nilA | with_reducible refine fresh_consA ?_ ?_)); done)
    ))
    | ((conv => whnf) <;> (first
    | (with_reducible refine and_same ?_)
    | (with_reducible refine and_side ?_ ?_)
    | (with_reducible refine Br.mk (fun _ => ?_) (fun _ => ?_))
    | (with_reducible refine NOut.lit ?_)
    | (with_reducible refine lenR_sl ?_)
    ))
    )
  all_goals (conv => whnf)
  all_goals (try dsimp only)
  · rename_i h
    exact ret_same (by rw [decide_eq_false (fun e => h (by rw [e]))])
  refine loop_at (α := Nat) (fun a => [(5, .int .i64 a)]) (fun a => [])
      (fun a => a ≤ L.length ∧ ∀ j, j < a → L[j]? = M[j]?) (fun a => L.length - a) 0 ⟨by omega, by simp⟩ rfl rfl ?_
  rintro k ⟨hk, hok⟩
  by_cases hlt : k < L.length
  · obtain ⟨p, hp, hpk⟩ := getN (l := L) (k := k) (by omega)
    obtain ⟨q, hq, hqk⟩ := getN (l := M) (k := k) (by omega)
    obtain ⟨p1, p2, p3⟩ := p
    obtain ⟨q1, q2, q3⟩ := q
    repeat' (first
      | ((with_reducible refine Side.intro ?_) <;> (first
      | omega
      | exact Nat.le_of_ble_eq_true rfl
      | (simp only [List.append_nil, List.nil_append, List.map_nil]; first | exact List.nodup_nil | exact nodup_bid1 _ | exact nodup_bid2 (by assumption))
      | ((first | refine fresh_tup ?_ | skip); (repeat (first | exact fresh_sp _ | exact fresh_bk _ | exact fresh_datT _ |  exact FreshA.sl _ _ FreshA_bs | exact FreshA.sl _ _ FreshA_is | exact FreshA.nils | exact FreshA.nilp | exact FreshA.int _ _ | exact FreshA.bool _ | exact FreshA.str _ | exact fresh_nil | refine fresh_cons ?_ ?_ | with_reducible refine fresh_aggR ?_ | with_reducible refine fresh_agg ?_ | with_reducible exact fresh_nilA | with_reducible refine fresh_consA ?_ ?_)); done)
      ))
      | ((conv => whnf) <;> (first
      | (with_reducible refine and_same ?_)
      | (with_reducible refine and_side ?_ ?_)
      | ((with_reducible apply Br.yes) ; (focus omega))
      | (with_reducible refine Br.mk (fun _ => ?_) (fun _ => ?_))
      | ((with_reducible apply nthR_bk) ; (focus assumption))
      | (with_reducible refine ia_sl ?_ ?_)
      | (with_reducible refine NOut.lit ?_)
      | (with_reducible refine lenR_sl ?_)
      ))
      )
    all_goals (conv => whnf)
    all_goals (try dsimp only)
    · rename_i he
      refine ⟨k + 1, rfl, rfl, ⟨by omega, fun j hj => ?_⟩, by omega⟩
      by_cases e : j = k
      · subst e
        rw [hpk, hqk]
        simp_all
      · exact hok j (by omega)
    · rename_i hne
      refine ret_bool (decide_eq_false fun e => hne ?_).symm
      subst e
      rw [hpk] at hqk
      simp_all
  · repeat' (first
      | ((with_reducible refine Side.intro ?_) <;> (first
      | (simp only [List.append_nil, List.nil_append, List.map_nil]; first | exact List.nodup_nil | exact nodup_bid1 _ | exact nodup_bid2 (by assumption))
      | ((first | refine fresh_tup ?_ | skip); (repeat (first | exact fresh_sp _ | exact fresh_bk _ | exact fresh_datT _ |  exact FreshA.sl _ _ FreshA_bs | exact FreshA.sl _ _ FreshA_is | exact FreshA.nils | exact FreshA.nilp | exact FreshA.int _ _ | exact FreshA.bool _ | exact FreshA.str _ | exact fresh_nil | refine fresh_cons ?_ ?_ | with_reducible refine fresh_aggR ?_ | with_reducible refine fresh_agg ?_ | with_reducible exact fresh_nilA | with_reducible refine fresh_consA ?_ ?_)); done)
      ))
      | ((conv => whnf) <;> (first
      | (with_reducible refine and_same ?_)
      | (with_reducible refine and_side ?_ ?_)
      | ((with_reducible apply Br.no) ; (focus omega))
      | (with_reducible refine NOut.lit ?_)
      | (with_reducible refine lenR_sl ?_)
      ))
      )
    all_goals (conv => whnf)
    all_goals (try dsimp only)
    refine ret_bool (decide_eq_true ?_).symm
    apply List.ext_getElem?
    intro j
    by_cases hj : j < k
    · exact hok j hj
    · rw [List.getElem?_eq_none (by omega), List.getElem?_eq_none (by omega)]
theorem BSame_call (L M : List (Int × Int × Int)) (hL : L.length ≤ 4611686018427) (hM : M.length ≤ 4611686018427) {σ : AH} {x y : AV} (hx : Looks σ x (.sl 3 (Go.Proofs.Ytjbfdhnfdehdeaa.bk L) false)) (hy : Looks σ y (.sl 3 (Go.Proofs.Ytjbfdhnfdehdeaa.bk M) false)) {Q : AV → AH → Prop} (h : ∀ σ', Gr σ σ' none → Q (.bool (decide (L = M))) σ') : CallS Try.prog F.joistref11_Same [x, y] σ Q :=
  call_one (BSame_ok L M hL hM) (.cons hx (.cons hy .nil)) rfl h
end Go.Proofs.Ytjbfdhnfdehdeaa
