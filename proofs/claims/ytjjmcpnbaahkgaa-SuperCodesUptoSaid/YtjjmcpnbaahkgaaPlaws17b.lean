import Derived.Test.YtjjmcpnbaahkgaaPlaws17
namespace Go.Proofs.Ytjjmcpnbaahkgaa
open Go Go.Proofs.Ytjjmcpnbaahkgaa.V
set_option maxRecDepth 20000
attribute [local irreducible] CallS AOK AOKn ALoop Side Ref.ok
theorem nm_md {s : List UInt8} (h : mdOk s = true) : nm (md s) = s := by
  have h1 : md s ≠ 0 := of_decide_eq_true h
  unfold md at h1 ⊢
  split at h1 <;> rename_i c
  · rw [if_pos c, c]; rfl
  split at h1 <;> rename_i c2
  · rw [if_neg c, if_pos c2, c2]; rfl
  split at h1 <;> rename_i c3
  · rw [if_neg c, if_neg c2, if_pos c3, c3]; rfl
  split at h1 <;> rename_i c4
  · rw [if_neg c, if_neg c2, if_neg c3, if_pos c4, c4]; rfl
  · exact absurd rfl h1
theorem md_nm (m : Int) : (mdOk (nm m) = true ∧ md (nm m) = m ∧ nm m ≠ []) ∨ (mdOk (nm m) = false ∧ nm m = []) := by
  by_cases h1 : m = 1
  · subst h1; exact .inl ⟨rfl, rfl, by decide⟩
  by_cases h2 : m = 2
  · subst h2; exact .inl ⟨rfl, rfl, by decide⟩
  by_cases h3 : m = 3
  · subst h3; exact .inl ⟨rfl, rfl, by decide⟩
  by_cases h4 : m = 4
  · subst h4; exact .inl ⟨rfl, rfl, by decide⟩
  have e : nm m = [] := by unfold nm; rw [if_neg h1, if_neg h2, if_neg h3, if_neg h4]
  rw [e]
  exact .inr ⟨rfl, rfl⟩
set_option maxHeartbeats 4000000 in
theorem SuperBack_ok (p s r o m b : Int) (t nam : List UInt8) (hs : t.length ≤ 4611686018) : AOKn Try.prog F.joistlaw17_SuperBack [shp p s r o, .int .i64 m, .int .i64 b, .sl 1 (bs t) false, .str nam] fun y => y = .bool true := by
  have hn := bs_length t
  refine AOKn.by_steps mixed fc_joistlaw17_SuperBack_ok (by simp [fc_joistlaw17_SuperBack]) ?_
  repeat' (first
    | ((with_reducible refine Side.intro ?_) <;> (first
    | exact rfl
    ))
    | ((conv => whnf) <;> (first
    | (with_reducible refine and_side ?_ ?_)
    ))
    )
  all_goals (conv => whnf)
  all_goals (try dsimp only)
  refine small_call fun H0 hg0 => ?_
  have b0 := hg0.2 0 _ rfl (by simp)
  repeat' (first
    | ((with_reducible refine Side.intro ?_) <;> (first
    | exact Nat.le_of_ble_eq_true rfl
    ))
    | ((conv => whnf) <;> (first
    | (with_reducible refine and_side ?_ ?_)
    | ((with_reducible apply blkAt_intro) ; (focus (first
    | ((repeat (first
    | assumption
    )); done)
    )) ; (focus (first | rfl | assumption | omega)) ; (try dsimp only))
    ))
    )
  all_goals (conv => whnf)
  all_goals (try dsimp only)
  refine Write_call p s r o m b fun H1 x hg1 hx hn1 => ?_
  replace b0 := hg1.2 0 _ (by (first
        | ((repeat (first
        | assumption
        )); done)
        )) (by simp)
  unfold shp at b0
  have l1 := (List.getElem?_eq_some_iff.1 b0).1
  cases ho : supB p s r o m b
  · rw [show wrE p s r o m b = 1 from by simp [wrE, ho]]
    repeat' (first
      | ((conv => whnf) <;> (first
      | (with_reducible refine and_same ?_)
      | (with_reducible refine Br.no (by omega) ?_)
      ))
      )
    all_goals (conv => whnf)
    all_goals (try dsimp only)
    refine Read_call t hs (.bs _ _ _) fun H3 hg3 => ?_
    unfold hdA shp
    cases h0 : hdOk t
    · have hz3 := hd_no h0
      rw [hz3, hz3, hz3, hz3, hz3, hz3]
      repeat' (first
        | ((with_reducible refine Side.intro ?_) <;> (first
        | exact Nat.le_of_ble_eq_true rfl
        | exact rfl
        ))
        | ((conv => whnf) <;> (first
        | (with_reducible refine and_same ?_)
        | (with_reducible refine and_side ?_ ?_)
        | ((with_reducible apply blkAt_intro) ; (focus (first
        | ((repeat (first
        | exact get_new
        )); done)
        )) ; (focus (first | rfl | assumption | omega)) ; (try dsimp only))
        ))
        )
      all_goals (conv => whnf)
      all_goals (try dsimp only)
      refine Mode_call nam fun H5 hg5 => ?_
      cases hm : mdOk nam
      · skip
        all_goals (conv => whnf)
        all_goals (try dsimp only)
        refine Name_call m fun H7 hg7 => ?_
        skip
        all_goals (conv => whnf)
        all_goals (try dsimp only)
        refine Mode_call (nm m) fun H8 hg8 => ?_
        rcases md_nm m with ⟨c1, c2, c3⟩ | ⟨c1, c2⟩
        · rw [c1, c2]
          skip
          all_goals (conv => whnf)
          all_goals (try dsimp only)
          refine Name_call m fun H9 hg9 => ?_
          repeat' (first
            | ((with_reducible refine Side.intro ?_) <;> (first
            | (simp only [List.append_nil, List.nil_append, List.map_nil]; first | exact List.nodup_nil | exact nodup_bid1 _ | exact nodup_bid2 (by assumption))
            | ((first | refine fresh_tup ?_ | skip); (repeat (first |  exact FreshA.sl _ _ FreshA_bs | exact FreshA.sl _ _ FreshA_is | exact FreshA.nils | exact FreshA.nilp | exact FreshA.int _ _ | exact FreshA.bool _ | exact FreshA.str _ | exact fresh_nil | refine fresh_cons ?_ ?_ | with_reducible refine fresh_aggR ?_ | with_reducible refine fresh_agg ?_ | with_reducible exact fresh_nilA | with_reducible refine fresh_consA ?_ ?_)); done)
            ))
            | ((conv => whnf) <;> (first
            | (with_reducible refine and_same ?_)
            | (with_reducible refine and_side ?_ ?_)
            | (with_reducible refine Br.yes rfl ?_)
            | (with_reducible refine Br.yes (by omega) ?_)
            | (with_reducible refine NOut.lit ?_)
            ))
            )
          all_goals (conv => whnf)
          all_goals (try dsimp only)
          all_goals first
            | exact ret_bool rfl
            | exact absurd rfl (by assumption)
            | trace_state
        · rw [c1]
          skip
          all_goals (conv => whnf)
          all_goals (try dsimp only)
          refine Name_call m fun H9 hg9 => ?_
          rw [c2]
          have hnl : ¬ (([] : List UInt8) ≠ []) := fun e => e rfl
          repeat' (first
            | ((with_reducible refine Side.intro ?_) <;> (first
            | (simp only [List.append_nil, List.nil_append, List.map_nil]; first | exact List.nodup_nil | exact nodup_bid1 _ | exact nodup_bid2 (by assumption))
            | ((first | refine fresh_tup ?_ | skip); (repeat (first |  exact FreshA.sl _ _ FreshA_bs | exact FreshA.sl _ _ FreshA_is | exact FreshA.nils | exact FreshA.nilp | exact FreshA.int _ _ | exact FreshA.bool _ | exact FreshA.str _ | exact fresh_nil | refine fresh_cons ?_ ?_ | with_reducible refine fresh_aggR ?_ | with_reducible refine fresh_agg ?_ | with_reducible exact fresh_nilA | with_reducible refine fresh_consA ?_ ?_)); done)
            ))
            | ((conv => whnf) <;> (first
            | (with_reducible refine and_side ?_ ?_)
            | (with_reducible refine Br.yes rfl ?_)
            | (with_reducible refine Br.no (by omega) ?_)
            | (with_reducible refine NOut.lit ?_)
            ))
            )
          all_goals (conv => whnf)
          all_goals (try dsimp only)
          all_goals first
            | exact ret_bool rfl
            | trace_state
      · skip
        all_goals (conv => whnf)
        all_goals (try dsimp only)
        refine Name_call (md nam) fun H6 hg6 => ?_
        rw [nm_md hm]
        have hnn : ¬ nam ≠ nam := fun e => e rfl
        repeat' (first
          | ((conv => whnf) <;> (first
          | (with_reducible refine Br.no (by omega) ?_)
          ))
          )
        all_goals (conv => whnf)
        all_goals (try dsimp only)
        refine Name_call m fun H7 hg7 => ?_
        skip
        all_goals (conv => whnf)
        all_goals (try dsimp only)
        refine Mode_call (nm m) fun H8 hg8 => ?_
        rcases md_nm m with ⟨c1, c2, c3⟩ | ⟨c1, c2⟩
        · rw [c1, c2]
          skip
          all_goals (conv => whnf)
          all_goals (try dsimp only)
          refine Name_call m fun H9 hg9 => ?_
          repeat' (first
            | ((with_reducible refine Side.intro ?_) <;> (first
            | (simp only [List.append_nil, List.nil_append, List.map_nil]; first | exact List.nodup_nil | exact nodup_bid1 _ | exact nodup_bid2 (by assumption))
            | ((first | refine fresh_tup ?_ | skip); (repeat (first |  exact FreshA.sl _ _ FreshA_bs | exact FreshA.sl _ _ FreshA_is | exact FreshA.nils | exact FreshA.nilp | exact FreshA.int _ _ | exact FreshA.bool _ | exact FreshA.str _ | exact fresh_nil | refine fresh_cons ?_ ?_ | with_reducible refine fresh_aggR ?_ | with_reducible refine fresh_agg ?_ | with_reducible exact fresh_nilA | with_reducible refine fresh_consA ?_ ?_)); done)
            ))
            | ((conv => whnf) <;> (first
            | (with_reducible refine and_same ?_)
            | (with_reducible refine and_side ?_ ?_)
            | (with_reducible refine Br.yes rfl ?_)
            | (with_reducible refine Br.yes (by omega) ?_)
            | (with_reducible refine NOut.lit ?_)
            ))
            )
          all_goals (conv => whnf)
          all_goals (try dsimp only)
          all_goals first
            | exact ret_bool rfl
            | exact absurd rfl (by assumption)
            | trace_state
        · rw [c1]
          skip
          all_goals (conv => whnf)
          all_goals (try dsimp only)
          refine Name_call m fun H9 hg9 => ?_
          rw [c2]
          have hnl : ¬ (([] : List UInt8) ≠ []) := fun e => e rfl
          repeat' (first
            | ((with_reducible refine Side.intro ?_) <;> (first
            | (simp only [List.append_nil, List.nil_append, List.map_nil]; first | exact List.nodup_nil | exact nodup_bid1 _ | exact nodup_bid2 (by assumption))
            | ((first | refine fresh_tup ?_ | skip); (repeat (first |  exact FreshA.sl _ _ FreshA_bs | exact FreshA.sl _ _ FreshA_is | exact FreshA.nils | exact FreshA.nilp | exact FreshA.int _ _ | exact FreshA.bool _ | exact FreshA.str _ | exact fresh_nil | refine fresh_cons ?_ ?_ | with_reducible refine fresh_aggR ?_ | with_reducible refine fresh_agg ?_ | with_reducible exact fresh_nilA | with_reducible refine fresh_consA ?_ ?_)); done)
            ))
            | ((conv => whnf) <;> (first
            | (with_reducible refine and_side ?_ ?_)
            | (with_reducible refine Br.yes rfl ?_)
            | (with_reducible refine Br.no (by omega) ?_)
            | (with_reducible refine NOut.lit ?_)
            ))
            )
          all_goals (conv => whnf)
          all_goals (try dsimp only)
          all_goals first
            | exact ret_bool rfl
            | trace_state
    · have hz3 := hd_yes h0
      obtain ⟨q1, q2, q3⟩ := hdOk_iff.1 h0
      rw [hz3, hz3, hz3, hz3, hz3, hz3]
      repeat' (first
        | ((with_reducible refine Side.intro ?_) <;> (first
        | exact Nat.le_of_ble_eq_true rfl
        | exact rfl
        ))
        | ((conv => whnf) <;> (first
        | (with_reducible refine and_same ?_)
        | (with_reducible refine and_side ?_ ?_)
        | ((with_reducible apply blkAt_intro) ; (focus (first
        | ((repeat (first
        | exact get_new
        | exact get_set get_new
        )); done)
        )) ; (focus (first | rfl | assumption | omega)) ; (try dsimp only))
        ))
        )
      all_goals (conv => whnf)
      all_goals (try dsimp only)
      refine Write_call (vb t 2) (vb t 3) (vb t 4) (vb t 5) (vb t 1) (vb t 6) fun H4 y hg4 hy hn4 => ?_
      rw [show wrR (vb t 2) (vb t 3) (vb t 4) (vb t 5) (vb t 1) (vb t 6) = t from q3] at hy
      rw [show wrE (vb t 2) (vb t 3) (vb t 4) (vb t 5) (vb t 1) (vb t 6) = 0 from by rw [wrE, show supB (vb t 2) (vb t 3) (vb t 4) (vb t 5) (vb t 1) (vb t 6) = true from q2]; rfl]
      have hss : ¬ t ≠ t := fun e => e rfl
      repeat' (first
        | ((conv => whnf) <;> (first
        | (with_reducible refine and_same ?_)
        | (with_reducible refine Br.no (by omega) ?_)
        | (with_reducible refine rowsR_own (by assumption) ?_)
        | (with_reducible refine rowsR_sl ?_)
        | (with_reducible refine bytesR_intro (by first | rfl | (simp only [bs_take, bs_drop, bs_append]; rfl)) ?_)
        ))
        )
      all_goals (conv => whnf)
      all_goals (try dsimp only)
      refine Mode_call nam fun H5 hg5 => ?_
      cases hm : mdOk nam
      · skip
        all_goals (conv => whnf)
        all_goals (try dsimp only)
        refine Name_call m fun H7 hg7 => ?_
        skip
        all_goals (conv => whnf)
        all_goals (try dsimp only)
        refine Mode_call (nm m) fun H8 hg8 => ?_
        rcases md_nm m with ⟨c1, c2, c3⟩ | ⟨c1, c2⟩
        · rw [c1, c2]
          skip
          all_goals (conv => whnf)
          all_goals (try dsimp only)
          refine Name_call m fun H9 hg9 => ?_
          repeat' (first
            | ((with_reducible refine Side.intro ?_) <;> (first
            | (simp only [List.append_nil, List.nil_append, List.map_nil]; first | exact List.nodup_nil | exact nodup_bid1 _ | exact nodup_bid2 (by assumption))
            | ((first | refine fresh_tup ?_ | skip); (repeat (first |  exact FreshA.sl _ _ FreshA_bs | exact FreshA.sl _ _ FreshA_is | exact FreshA.nils | exact FreshA.nilp | exact FreshA.int _ _ | exact FreshA.bool _ | exact FreshA.str _ | exact fresh_nil | refine fresh_cons ?_ ?_ | with_reducible refine fresh_aggR ?_ | with_reducible refine fresh_agg ?_ | with_reducible exact fresh_nilA | with_reducible refine fresh_consA ?_ ?_)); done)
            ))
            | ((conv => whnf) <;> (first
            | (with_reducible refine and_same ?_)
            | (with_reducible refine and_side ?_ ?_)
            | (with_reducible refine Br.yes rfl ?_)
            | (with_reducible refine Br.yes (by omega) ?_)
            | (with_reducible refine NOut.lit ?_)
            ))
            )
          all_goals (conv => whnf)
          all_goals (try dsimp only)
          all_goals first
            | exact ret_bool rfl
            | exact absurd rfl (by assumption)
            | trace_state
        · rw [c1]
          skip
          all_goals (conv => whnf)
          all_goals (try dsimp only)
          refine Name_call m fun H9 hg9 => ?_
          rw [c2]
          have hnl : ¬ (([] : List UInt8) ≠ []) := fun e => e rfl
          repeat' (first
            | ((with_reducible refine Side.intro ?_) <;> (first
            | (simp only [List.append_nil, List.nil_append, List.map_nil]; first | exact List.nodup_nil | exact nodup_bid1 _ | exact nodup_bid2 (by assumption))
            | ((first | refine fresh_tup ?_ | skip); (repeat (first |  exact FreshA.sl _ _ FreshA_bs | exact FreshA.sl _ _ FreshA_is | exact FreshA.nils | exact FreshA.nilp | exact FreshA.int _ _ | exact FreshA.bool _ | exact FreshA.str _ | exact fresh_nil | refine fresh_cons ?_ ?_ | with_reducible refine fresh_aggR ?_ | with_reducible refine fresh_agg ?_ | with_reducible exact fresh_nilA | with_reducible refine fresh_consA ?_ ?_)); done)
            ))
            | ((conv => whnf) <;> (first
            | (with_reducible refine and_side ?_ ?_)
            | (with_reducible refine Br.yes rfl ?_)
            | (with_reducible refine Br.no (by omega) ?_)
            | (with_reducible refine NOut.lit ?_)
            ))
            )
          all_goals (conv => whnf)
          all_goals (try dsimp only)
          all_goals first
            | exact ret_bool rfl
            | trace_state
      · skip
        all_goals (conv => whnf)
        all_goals (try dsimp only)
        refine Name_call (md nam) fun H6 hg6 => ?_
        rw [nm_md hm]
        have hnn : ¬ nam ≠ nam := fun e => e rfl
        repeat' (first
          | ((conv => whnf) <;> (first
          | (with_reducible refine Br.no (by omega) ?_)
          ))
          )
        all_goals (conv => whnf)
        all_goals (try dsimp only)
        refine Name_call m fun H7 hg7 => ?_
        skip
        all_goals (conv => whnf)
        all_goals (try dsimp only)
        refine Mode_call (nm m) fun H8 hg8 => ?_
        rcases md_nm m with ⟨c1, c2, c3⟩ | ⟨c1, c2⟩
        · rw [c1, c2]
          skip
          all_goals (conv => whnf)
          all_goals (try dsimp only)
          refine Name_call m fun H9 hg9 => ?_
          repeat' (first
            | ((with_reducible refine Side.intro ?_) <;> (first
            | (simp only [List.append_nil, List.nil_append, List.map_nil]; first | exact List.nodup_nil | exact nodup_bid1 _ | exact nodup_bid2 (by assumption))
            | ((first | refine fresh_tup ?_ | skip); (repeat (first |  exact FreshA.sl _ _ FreshA_bs | exact FreshA.sl _ _ FreshA_is | exact FreshA.nils | exact FreshA.nilp | exact FreshA.int _ _ | exact FreshA.bool _ | exact FreshA.str _ | exact fresh_nil | refine fresh_cons ?_ ?_ | with_reducible refine fresh_aggR ?_ | with_reducible refine fresh_agg ?_ | with_reducible exact fresh_nilA | with_reducible refine fresh_consA ?_ ?_)); done)
            ))
            | ((conv => whnf) <;> (first
            | (with_reducible refine and_same ?_)
            | (with_reducible refine and_side ?_ ?_)
            | (with_reducible refine Br.yes rfl ?_)
            | (with_reducible refine Br.yes (by omega) ?_)
            | (with_reducible refine NOut.lit ?_)
            ))
            )
          all_goals (conv => whnf)
          all_goals (try dsimp only)
          all_goals first
            | exact ret_bool rfl
            | exact absurd rfl (by assumption)
            | trace_state
        · rw [c1]
          skip
          all_goals (conv => whnf)
          all_goals (try dsimp only)
          refine Name_call m fun H9 hg9 => ?_
          rw [c2]
          have hnl : ¬ (([] : List UInt8) ≠ []) := fun e => e rfl
          repeat' (first
            | ((with_reducible refine Side.intro ?_) <;> (first
            | (simp only [List.append_nil, List.nil_append, List.map_nil]; first | exact List.nodup_nil | exact nodup_bid1 _ | exact nodup_bid2 (by assumption))
            | ((first | refine fresh_tup ?_ | skip); (repeat (first |  exact FreshA.sl _ _ FreshA_bs | exact FreshA.sl _ _ FreshA_is | exact FreshA.nils | exact FreshA.nilp | exact FreshA.int _ _ | exact FreshA.bool _ | exact FreshA.str _ | exact fresh_nil | refine fresh_cons ?_ ?_ | with_reducible refine fresh_aggR ?_ | with_reducible refine fresh_agg ?_ | with_reducible exact fresh_nilA | with_reducible refine fresh_consA ?_ ?_)); done)
            ))
            | ((conv => whnf) <;> (first
            | (with_reducible refine and_side ?_ ?_)
            | (with_reducible refine Br.yes rfl ?_)
            | (with_reducible refine Br.no (by omega) ?_)
            | (with_reducible refine NOut.lit ?_)
            ))
            )
          all_goals (conv => whnf)
          all_goals (try dsimp only)
          all_goals first
            | exact ret_bool rfl
            | trace_state
  · rw [show wrE p s r o m b = 0 from by simp [wrE, ho]]
    obtain ⟨k0, kl, k1, k2, k3, k4, k5, k6⟩ := hd_wr ho
    have hz := hd_yes k0
    have hbl := bs_length (wrR p s r o m b)
    repeat' (first
      | ((conv => whnf) <;> (first
      | (with_reducible refine and_same ?_)
      | (with_reducible refine Br.yes rfl ?_)
      ))
      )
    all_goals (conv => whnf)
    all_goals (try dsimp only)
    refine Read_call (wrR p s r o m b) (by omega) (Looks.ownbs (hx.keepN (by (repeat (first
          | exact Gr.refl _ _
          ))))) fun H2 hg2 => ?_
    replace b0 := hg2.2 0 _ (by (first
          | ((repeat (first
          | assumption
          )); done)
          )) (by simp)
    have l2 := (List.getElem?_eq_some_iff.1 b0).1
    unfold hdA
    rw [k0, hz, hz, hz, hz, hz, hz, k1, k2, k3, k4, k5, k6]
    unfold shp
    repeat' (first
      | ((with_reducible refine Side.intro ?_) <;> (first
      | exact Nat.le_of_ble_eq_true rfl
      | exact rfl
      ))
      | ((conv => whnf) <;> (first
      | (with_reducible refine and_same ?_)
      | (with_reducible refine and_side ?_ ?_)
      | (with_reducible refine Br.no (by omega) ?_)
      | (with_reducible refine Br.yes (by ((with_reducible refine And.intro ?_ ?_); (repeat' (first | with_reducible rfl | exact True.intro | with_reducible refine And.intro ?_ ?_ | omega | assumption)); (first | done | fail))) ?_)
      | ((with_reducible apply blkAt_intro) ; (focus (first
      | ((repeat (first
      | assumption
      | exact get_new
      | exact get_set get_new
      | apply get_old
      | (apply get_set_ne; (focus (first | omega | (simp only [newB_length, List.length_set, List.length_append, List.length_singleton, List.length_nil]; omega))))
      )); done)
      )) ; (focus (first | rfl | assumption | omega)) ; (try dsimp only))
      | (with_reducible refine lenR_own (Own.upTo (by assumption) (by ((repeat (first | exact Gr.refl _ _ | assumption | with_reducible refine Gr.trans ?_ (Gr.boxN _ _ _ _ _) | refine Gr.setNew ?_ (by first | exact Nat.le_refl _ | (simp only [newB_length, List.length_set, List.length_append, List.length_singleton]; omega) | omega) _ | refine Gr.addN ?_ _ | refine Gr.newN ?_ _ _ _ | exact Gr.trans (by assumption) (by assumption) | refine Gr.trans ?_ (by assumption) | refine Gr.trans (by assumption) ?_)); (first | done | fail)))) ?_)
      ))
      )
    all_goals (conv => whnf)
    all_goals (try dsimp only)
    refine Read_call t hs (.bs _ _ _) fun H3 hg3 => ?_
    unfold hdA shp
    cases h0 : hdOk t
    · have hz3 := hd_no h0
      rw [hz3, hz3, hz3, hz3, hz3, hz3]
      repeat' (first
        | ((with_reducible refine Side.intro ?_) <;> (first
        | exact Nat.le_of_ble_eq_true rfl
        | exact rfl
        ))
        | ((conv => whnf) <;> (first
        | (with_reducible refine and_same ?_)
        | (with_reducible refine and_side ?_ ?_)
        | ((with_reducible apply blkAt_intro) ; (focus (first
        | ((repeat (first
        | exact get_new
        )); done)
        )) ; (focus (first | rfl | assumption | omega)) ; (try dsimp only))
        ))
        )
      all_goals (conv => whnf)
      all_goals (try dsimp only)
      refine Mode_call nam fun H5 hg5 => ?_
      cases hm : mdOk nam
      · skip
        all_goals (conv => whnf)
        all_goals (try dsimp only)
        refine Name_call m fun H7 hg7 => ?_
        skip
        all_goals (conv => whnf)
        all_goals (try dsimp only)
        refine Mode_call (nm m) fun H8 hg8 => ?_
        rcases md_nm m with ⟨c1, c2, c3⟩ | ⟨c1, c2⟩
        · rw [c1, c2]
          skip
          all_goals (conv => whnf)
          all_goals (try dsimp only)
          refine Name_call m fun H9 hg9 => ?_
          repeat' (first
            | ((with_reducible refine Side.intro ?_) <;> (first
            | (simp only [List.append_nil, List.nil_append, List.map_nil]; first | exact List.nodup_nil | exact nodup_bid1 _ | exact nodup_bid2 (by assumption))
            | ((first | refine fresh_tup ?_ | skip); (repeat (first |  exact FreshA.sl _ _ FreshA_bs | exact FreshA.sl _ _ FreshA_is | exact FreshA.nils | exact FreshA.nilp | exact FreshA.int _ _ | exact FreshA.bool _ | exact FreshA.str _ | exact fresh_nil | refine fresh_cons ?_ ?_ | with_reducible refine fresh_aggR ?_ | with_reducible refine fresh_agg ?_ | with_reducible exact fresh_nilA | with_reducible refine fresh_consA ?_ ?_)); done)
            ))
            | ((conv => whnf) <;> (first
            | (with_reducible refine and_same ?_)
            | (with_reducible refine and_side ?_ ?_)
            | (with_reducible refine Br.yes rfl ?_)
            | (with_reducible refine Br.yes (by omega) ?_)
            | (with_reducible refine NOut.lit ?_)
            ))
            )
          all_goals (conv => whnf)
          all_goals (try dsimp only)
          all_goals first
            | exact ret_bool rfl
            | exact absurd rfl (by assumption)
            | trace_state
        · rw [c1]
          skip
          all_goals (conv => whnf)
          all_goals (try dsimp only)
          refine Name_call m fun H9 hg9 => ?_
          rw [c2]
          have hnl : ¬ (([] : List UInt8) ≠ []) := fun e => e rfl
          repeat' (first
            | ((with_reducible refine Side.intro ?_) <;> (first
            | (simp only [List.append_nil, List.nil_append, List.map_nil]; first | exact List.nodup_nil | exact nodup_bid1 _ | exact nodup_bid2 (by assumption))
            | ((first | refine fresh_tup ?_ | skip); (repeat (first |  exact FreshA.sl _ _ FreshA_bs | exact FreshA.sl _ _ FreshA_is | exact FreshA.nils | exact FreshA.nilp | exact FreshA.int _ _ | exact FreshA.bool _ | exact FreshA.str _ | exact fresh_nil | refine fresh_cons ?_ ?_ | with_reducible refine fresh_aggR ?_ | with_reducible refine fresh_agg ?_ | with_reducible exact fresh_nilA | with_reducible refine fresh_consA ?_ ?_)); done)
            ))
            | ((conv => whnf) <;> (first
            | (with_reducible refine and_side ?_ ?_)
            | (with_reducible refine Br.yes rfl ?_)
            | (with_reducible refine Br.no (by omega) ?_)
            | (with_reducible refine NOut.lit ?_)
            ))
            )
          all_goals (conv => whnf)
          all_goals (try dsimp only)
          all_goals first
            | exact ret_bool rfl
            | trace_state
      · skip
        all_goals (conv => whnf)
        all_goals (try dsimp only)
        refine Name_call (md nam) fun H6 hg6 => ?_
        rw [nm_md hm]
        have hnn : ¬ nam ≠ nam := fun e => e rfl
        repeat' (first
          | ((conv => whnf) <;> (first
          | (with_reducible refine Br.no (by omega) ?_)
          ))
          )
        all_goals (conv => whnf)
        all_goals (try dsimp only)
        refine Name_call m fun H7 hg7 => ?_
        skip
        all_goals (conv => whnf)
        all_goals (try dsimp only)
        refine Mode_call (nm m) fun H8 hg8 => ?_
        rcases md_nm m with ⟨c1, c2, c3⟩ | ⟨c1, c2⟩
        · rw [c1, c2]
          skip
          all_goals (conv => whnf)
          all_goals (try dsimp only)
          refine Name_call m fun H9 hg9 => ?_
          repeat' (first
            | ((with_reducible refine Side.intro ?_) <;> (first
            | (simp only [List.append_nil, List.nil_append, List.map_nil]; first | exact List.nodup_nil | exact nodup_bid1 _ | exact nodup_bid2 (by assumption))
            | ((first | refine fresh_tup ?_ | skip); (repeat (first |  exact FreshA.sl _ _ FreshA_bs | exact FreshA.sl _ _ FreshA_is | exact FreshA.nils | exact FreshA.nilp | exact FreshA.int _ _ | exact FreshA.bool _ | exact FreshA.str _ | exact fresh_nil | refine fresh_cons ?_ ?_ | with_reducible refine fresh_aggR ?_ | with_reducible refine fresh_agg ?_ | with_reducible exact fresh_nilA | with_reducible refine fresh_consA ?_ ?_)); done)
            ))
            | ((conv => whnf) <;> (first
            | (with_reducible refine and_same ?_)
            | (with_reducible refine and_side ?_ ?_)
            | (with_reducible refine Br.yes rfl ?_)
            | (with_reducible refine Br.yes (by omega) ?_)
            | (with_reducible refine NOut.lit ?_)
            ))
            )
          all_goals (conv => whnf)
          all_goals (try dsimp only)
          all_goals first
            | exact ret_bool rfl
            | exact absurd rfl (by assumption)
            | trace_state
        · rw [c1]
          skip
          all_goals (conv => whnf)
          all_goals (try dsimp only)
          refine Name_call m fun H9 hg9 => ?_
          rw [c2]
          have hnl : ¬ (([] : List UInt8) ≠ []) := fun e => e rfl
          repeat' (first
            | ((with_reducible refine Side.intro ?_) <;> (first
            | (simp only [List.append_nil, List.nil_append, List.map_nil]; first | exact List.nodup_nil | exact nodup_bid1 _ | exact nodup_bid2 (by assumption))
            | ((first | refine fresh_tup ?_ | skip); (repeat (first |  exact FreshA.sl _ _ FreshA_bs | exact FreshA.sl _ _ FreshA_is | exact FreshA.nils | exact FreshA.nilp | exact FreshA.int _ _ | exact FreshA.bool _ | exact FreshA.str _ | exact fresh_nil | refine fresh_cons ?_ ?_ | with_reducible refine fresh_aggR ?_ | with_reducible refine fresh_agg ?_ | with_reducible exact fresh_nilA | with_reducible refine fresh_consA ?_ ?_)); done)
            ))
            | ((conv => whnf) <;> (first
            | (with_reducible refine and_side ?_ ?_)
            | (with_reducible refine Br.yes rfl ?_)
            | (with_reducible refine Br.no (by omega) ?_)
            | (with_reducible refine NOut.lit ?_)
            ))
            )
          all_goals (conv => whnf)
          all_goals (try dsimp only)
          all_goals first
            | exact ret_bool rfl
            | trace_state
    · have hz3 := hd_yes h0
      obtain ⟨q1, q2, q3⟩ := hdOk_iff.1 h0
      rw [hz3, hz3, hz3, hz3, hz3, hz3]
      repeat' (first
        | ((with_reducible refine Side.intro ?_) <;> (first
        | exact Nat.le_of_ble_eq_true rfl
        | exact rfl
        ))
        | ((conv => whnf) <;> (first
        | (with_reducible refine and_same ?_)
        | (with_reducible refine and_side ?_ ?_)
        | ((with_reducible apply blkAt_intro) ; (focus (first
        | ((repeat (first
        | exact get_new
        | exact get_set get_new
        )); done)
        )) ; (focus (first | rfl | assumption | omega)) ; (try dsimp only))
        ))
        )
      all_goals (conv => whnf)
      all_goals (try dsimp only)
      refine Write_call (vb t 2) (vb t 3) (vb t 4) (vb t 5) (vb t 1) (vb t 6) fun H4 y hg4 hy hn4 => ?_
      rw [show wrR (vb t 2) (vb t 3) (vb t 4) (vb t 5) (vb t 1) (vb t 6) = t from q3] at hy
      rw [show wrE (vb t 2) (vb t 3) (vb t 4) (vb t 5) (vb t 1) (vb t 6) = 0 from by rw [wrE, show supB (vb t 2) (vb t 3) (vb t 4) (vb t 5) (vb t 1) (vb t 6) = true from q2]; rfl]
      have hss : ¬ t ≠ t := fun e => e rfl
      repeat' (first
        | ((conv => whnf) <;> (first
        | (with_reducible refine and_same ?_)
        | (with_reducible refine Br.no (by omega) ?_)
        | (with_reducible refine rowsR_own (by assumption) ?_)
        | (with_reducible refine rowsR_sl ?_)
        | (with_reducible refine bytesR_intro (by first | rfl | (simp only [bs_take, bs_drop, bs_append]; rfl)) ?_)
        ))
        )
      all_goals (conv => whnf)
      all_goals (try dsimp only)
      refine Mode_call nam fun H5 hg5 => ?_
      cases hm : mdOk nam
      · skip
        all_goals (conv => whnf)
        all_goals (try dsimp only)
        refine Name_call m fun H7 hg7 => ?_
        skip
        all_goals (conv => whnf)
        all_goals (try dsimp only)
        refine Mode_call (nm m) fun H8 hg8 => ?_
        rcases md_nm m with ⟨c1, c2, c3⟩ | ⟨c1, c2⟩
        · rw [c1, c2]
          skip
          all_goals (conv => whnf)
          all_goals (try dsimp only)
          refine Name_call m fun H9 hg9 => ?_
          repeat' (first
            | ((with_reducible refine Side.intro ?_) <;> (first
            | (simp only [List.append_nil, List.nil_append, List.map_nil]; first | exact List.nodup_nil | exact nodup_bid1 _ | exact nodup_bid2 (by assumption))
            | ((first | refine fresh_tup ?_ | skip); (repeat (first |  exact FreshA.sl _ _ FreshA_bs | exact FreshA.sl _ _ FreshA_is | exact FreshA.nils | exact FreshA.nilp | exact FreshA.int _ _ | exact FreshA.bool _ | exact FreshA.str _ | exact fresh_nil | refine fresh_cons ?_ ?_ | with_reducible refine fresh_aggR ?_ | with_reducible refine fresh_agg ?_ | with_reducible exact fresh_nilA | with_reducible refine fresh_consA ?_ ?_)); done)
            ))
            | ((conv => whnf) <;> (first
            | (with_reducible refine and_same ?_)
            | (with_reducible refine and_side ?_ ?_)
            | (with_reducible refine Br.yes rfl ?_)
            | (with_reducible refine Br.yes (by omega) ?_)
            | (with_reducible refine NOut.lit ?_)
            ))
            )
          all_goals (conv => whnf)
          all_goals (try dsimp only)
          all_goals first
            | exact ret_bool rfl
            | exact absurd rfl (by assumption)
            | trace_state
        · rw [c1]
          skip
          all_goals (conv => whnf)
          all_goals (try dsimp only)
          refine Name_call m fun H9 hg9 => ?_
          rw [c2]
          have hnl : ¬ (([] : List UInt8) ≠ []) := fun e => e rfl
          repeat' (first
            | ((with_reducible refine Side.intro ?_) <;> (first
            | (simp only [List.append_nil, List.nil_append, List.map_nil]; first | exact List.nodup_nil | exact nodup_bid1 _ | exact nodup_bid2 (by assumption))
            | ((first | refine fresh_tup ?_ | skip); (repeat (first |  exact FreshA.sl _ _ FreshA_bs | exact FreshA.sl _ _ FreshA_is | exact FreshA.nils | exact FreshA.nilp | exact FreshA.int _ _ | exact FreshA.bool _ | exact FreshA.str _ | exact fresh_nil | refine fresh_cons ?_ ?_ | with_reducible refine fresh_aggR ?_ | with_reducible refine fresh_agg ?_ | with_reducible exact fresh_nilA | with_reducible refine fresh_consA ?_ ?_)); done)
            ))
            | ((conv => whnf) <;> (first
            | (with_reducible refine and_side ?_ ?_)
            | (with_reducible refine Br.yes rfl ?_)
            | (with_reducible refine Br.no (by omega) ?_)
            | (with_reducible refine NOut.lit ?_)
            ))
            )
          all_goals (conv => whnf)
          all_goals (try dsimp only)
          all_goals first
            | exact ret_bool rfl
            | trace_state
      · skip
        all_goals (conv => whnf)
        all_goals (try dsimp only)
        refine Name_call (md nam) fun H6 hg6 => ?_
        rw [nm_md hm]
        have hnn : ¬ nam ≠ nam := fun e => e rfl
        repeat' (first
          | ((conv => whnf) <;> (first
          | (with_reducible refine Br.no (by omega) ?_)
          ))
          )
        all_goals (conv => whnf)
        all_goals (try dsimp only)
        refine Name_call m fun H7 hg7 => ?_
        skip
        all_goals (conv => whnf)
        all_goals (try dsimp only)
        refine Mode_call (nm m) fun H8 hg8 => ?_
        rcases md_nm m with ⟨c1, c2, c3⟩ | ⟨c1, c2⟩
        · rw [c1, c2]
          skip
          all_goals (conv => whnf)
          all_goals (try dsimp only)
          refine Name_call m fun H9 hg9 => ?_
          repeat' (first
            | ((with_reducible refine Side.intro ?_) <;> (first
            | (simp only [List.append_nil, List.nil_append, List.map_nil]; first | exact List.nodup_nil | exact nodup_bid1 _ | exact nodup_bid2 (by assumption))
            | ((first | refine fresh_tup ?_ | skip); (repeat (first |  exact FreshA.sl _ _ FreshA_bs | exact FreshA.sl _ _ FreshA_is | exact FreshA.nils | exact FreshA.nilp | exact FreshA.int _ _ | exact FreshA.bool _ | exact FreshA.str _ | exact fresh_nil | refine fresh_cons ?_ ?_ | with_reducible refine fresh_aggR ?_ | with_reducible refine fresh_agg ?_ | with_reducible exact fresh_nilA | with_reducible refine fresh_consA ?_ ?_)); done)
            ))
            | ((conv => whnf) <;> (first
            | (with_reducible refine and_same ?_)
            | (with_reducible refine and_side ?_ ?_)
            | (with_reducible refine Br.yes rfl ?_)
            | (with_reducible refine Br.yes (by omega) ?_)
            | (with_reducible refine NOut.lit ?_)
            ))
            )
          all_goals (conv => whnf)
          all_goals (try dsimp only)
          all_goals first
            | exact ret_bool rfl
            | exact absurd rfl (by assumption)
            | trace_state
        · rw [c1]
          skip
          all_goals (conv => whnf)
          all_goals (try dsimp only)
          refine Name_call m fun H9 hg9 => ?_
          rw [c2]
          have hnl : ¬ (([] : List UInt8) ≠ []) := fun e => e rfl
          repeat' (first
            | ((with_reducible refine Side.intro ?_) <;> (first
            | (simp only [List.append_nil, List.nil_append, List.map_nil]; first | exact List.nodup_nil | exact nodup_bid1 _ | exact nodup_bid2 (by assumption))
            | ((first | refine fresh_tup ?_ | skip); (repeat (first |  exact FreshA.sl _ _ FreshA_bs | exact FreshA.sl _ _ FreshA_is | exact FreshA.nils | exact FreshA.nilp | exact FreshA.int _ _ | exact FreshA.bool _ | exact FreshA.str _ | exact fresh_nil | refine fresh_cons ?_ ?_ | with_reducible refine fresh_aggR ?_ | with_reducible refine fresh_agg ?_ | with_reducible exact fresh_nilA | with_reducible refine fresh_consA ?_ ?_)); done)
            ))
            | ((conv => whnf) <;> (first
            | (with_reducible refine and_side ?_ ?_)
            | (with_reducible refine Br.yes rfl ?_)
            | (with_reducible refine Br.no (by omega) ?_)
            | (with_reducible refine NOut.lit ?_)
            ))
            )
          all_goals (conv => whnf)
          all_goals (try dsimp only)
          all_goals first
            | exact ret_bool rfl
            | trace_state
end Go.Proofs.Ytjjmcpnbaahkgaa
