import Derived.Test.YtjjmcpnbaahkgaaPsuper3
namespace Go.Proofs.Ytjjmcpnbaahkgaa
open Go Go.Proofs.Ytjjmcpnbaahkgaa.V
set_option maxRecDepth 20000
attribute [local irreducible] CallS AOK AOKn ALoop Side Ref.ok
theorem hd_wr {p s r o m b : Int} (h : supB p s r o m b = true) : hdOk (wrR p s r o m b) = true ∧ (wrR p s r o m b).length = 64 ∧ vb (wrR p s r o m b) 1 = m ∧ vb (wrR p s r o m b) 2 = p ∧ vb (wrR p s r o m b) 3 = s ∧ vb (wrR p s r o m b) 4 = r ∧ vb (wrR p s r o m b) 5 = o ∧ vb (wrR p s r o m b) 6 = b := by
  have hmay := hw_may h
  have hl := hw_len p s r o m b
  have e0 : wrR p s r o m b = sealB (cat (hw p s r o m b)) := by rw [wrR, h, if_pos rfl]
  have hv : ∀ i n, (hw p s r o m b)[i]? = some n → vb (wrR p s r o m b) i = n := by
    intro i n hi
    have hi7 : i < 7 := (List.getElem?_eq_some_iff.1 hi).1
    have h1 : wd (wrR p s r o m b) i = wd (cat (hw p s r o m b)) i := by
      have := wd_take (wrR p s r o m b) 56 i (by omega)
      rw [← this, e0]
      have ht : (sealB (cat (hw p s r o m b))).take 56 = cat (hw p s r o m b) := by
        unfold sealB
        rw [List.take_append_of_le_length (by omega), List.take_of_length_le (by omega)]
      rw [ht]
    rw [vb, h1, wd_cat _ _ _ hi]
    exact (may_le (List.all_eq_true.1 hmay n (List.mem_of_getElem? hi))).2
  have h1 := hv 1 m rfl
  have h2 := hv 2 p rfl
  have h3 := hv 3 s rfl
  have h4 := hv 4 r rfl
  have h5 := hv 5 o rfl
  have h6 := hv 6 b rfl
  have hlen : (wrR p s r o m b).length = 64 := by rw [e0, sealB_length, hl]
  refine ⟨hdOk_iff.2 ⟨hlen, ?_, ?_⟩, hlen, h1, h2, h3, h4, h5, h6⟩
  · rw [supV, h1, h2, h3, h4, h5, h6]; exact h
  · rw [wrV, h1, h2, h3, h4, h5, h6]
theorem small_ok : AOKn Try.prog F.joistlaw17_small [] fun y => y = .bool true := by
  refine AOKn.by_steps mixed fc_joistlaw17_small_ok (by simp [fc_joistlaw17_small]) ?_
  have hsup : supB 4 4 2 30 3 2 = true := by decide
  obtain ⟨k0, kl, k1, k2, k3, k4, k5, k6⟩ := hd_wr hsup
  have hz := hd_yes k0
  have eE : wrE 4 4 2 30 3 2 = 0 := by rw [wrE, hsup]; rfl
  have eE2 : wrE 4 4 2 30 1 1 = 1 := by rw [wrE, show supB 4 4 2 30 1 1 = false from by decide]; rfl
  have hbl := bs_length (wrR 4 4 2 30 3 2)
  repeat' (first
    | ((with_reducible refine Side.intro ?_) <;> (first
    | assumption
    | exact Nat.le_of_ble_eq_true rfl
    | exact rfl
    ))
    | ((conv => whnf) <;> (first
    | (with_reducible refine and_same ?_)
    | (with_reducible refine and_side ?_ ?_)
    | ((with_reducible apply blkAt_intro) ; (focus (first
    | exact rfl
    )) ; (focus (first | rfl | assumption | omega)) ; (try dsimp only))
    ))
    )
  all_goals (conv => whnf)
  all_goals (try dsimp only)
  refine Write_call 4 4 2 30 3 2 fun H1 x hg1 hx hn1 => ?_
  have b0 := hg1.2 0 _ rfl (by simp)
  have l1 := (List.getElem?_eq_some_iff.1 b0).1
  rw [eE]
  skip
  all_goals (conv => whnf)
  all_goals (try dsimp only)
  refine Read_call (wrR 4 4 2 30 3 2) (by omega) (Looks.ownbs (hx.keepN (by (repeat (first
        | exact Gr.refl _ _
        ))))) fun H2 hg2 => ?_
  replace b0 := hg2.2 0 _ (by (first
        | ((repeat (first
        | assumption
        )); done)
        )) (by simp)
  have l2 := (List.getElem?_eq_some_iff.1 b0).1
  unfold hdA
  rw [k0, hz, hz, hz, hz, hz, hz, k1, k2, k3, k4, k5, k6]
  repeat' (first
    | ((with_reducible refine Side.intro ?_) <;> (first
    | assumption
    | exact Nat.le_of_ble_eq_true rfl
    | exact rfl
    ))
    | ((conv => whnf) <;> (first
    | (with_reducible refine and_same ?_)
    | (with_reducible refine and_side ?_ ?_)
    | ((with_reducible apply blkAt_intro) ; (focus (first
    | ((repeat (first
    | assumption
    | exact get_new
    | apply get_old
    | (apply get_set_ne; (focus (first | omega | (simp only [newB_length, List.length_set, List.length_append, List.length_singleton, List.length_nil]; omega))))
    )); done)
    )) ; (focus (first | rfl | assumption | omega)) ; (try dsimp only))
    ))
    )
  all_goals (conv => whnf)
  all_goals (try dsimp only)
  refine Write_call 4 4 2 30 1 1 fun H3 x3 hg3 hx3 hn3 => ?_
  rw [eE2]
  replace b0 := hg3.2 0 _ (by (first
        | ((repeat (first
        | assumption
        | apply get_old
        | (apply get_set_ne; (focus (first | omega | (simp only [newB_length, List.length_set, List.length_append, List.length_singleton, List.length_nil]; omega))))
        )); done)
        )) (by simp)
  have bt := hg3.2 H2.length _ (by (first
        | ((repeat (first
        | exact get_set get_new
        )); done)
        )) (by simp)
  have lt := (List.getElem?_eq_some_iff.1 bt).1
  skip
  all_goals (conv => whnf)
  all_goals (try dsimp only)
  refine Mode_call [116, 119, 111] fun H4 hg4 => ?_
  rw [show md [116, 119, 111] = 2 from rfl, show mdOk [116, 119, 111] = true from rfl]
  replace b0 := hg4.2 0 _ (by (first
        | ((repeat (first
        | assumption
        )); done)
        )) (by simp)
  replace bt := hg4.2 H2.length _ (by (first
        | ((repeat (first
        | assumption
        )); done)
        )) (by simp)
  repeat' (first
    | ((with_reducible refine Side.intro ?_) <;> (first
    | exact Nat.le_of_ble_eq_true rfl
    ))
    | ((conv => whnf) <;> (first
    | (with_reducible refine and_same ?_)
    | (with_reducible refine and_side ?_ ?_)
    | (with_reducible refine Br.yes rfl ?_)
    | (with_reducible refine Br.yes (by ((with_reducible refine And.intro ?_ ?_); (repeat' (first | with_reducible rfl | exact True.intro | with_reducible refine And.intro ?_ ?_ | omega | assumption)); (first | done | fail))) ?_)
    | ((with_reducible apply blkAt_intro) ; (focus (first
    | ((repeat (first
    | assumption
    )); done)
    )) ; (focus (first | rfl | assumption | omega)) ; (try dsimp only))
    | (with_reducible refine lenR_own (Own.upTo (by assumption) (by ((repeat (first | exact Gr.refl _ _ | assumption | with_reducible refine Gr.trans ?_ (Gr.boxN _ _ _ _ _) | refine Gr.setNew ?_ (by first | exact Nat.le_refl _ | (simp only [newB_length, List.length_set, List.length_append, List.length_singleton]; omega) | omega) _ | refine Gr.addN ?_ _ | refine Gr.newN ?_ _ _ _ | exact Gr.trans (by assumption) (by assumption) | refine Gr.trans ?_ (by assumption) | refine Gr.trans (by assumption) ?_)); (first | done | fail)))) ?_)
    ))
    )
  all_goals (conv => whnf)
  all_goals (try dsimp only)
  refine Name_call 2 fun H5 hg5 => ?_
  rw [show nm 2 = [116, 119, 111] from rfl]
  repeat' (first
    | ((with_reducible refine Side.intro ?_) <;> (first
    | (simp only [List.append_nil, List.nil_append, List.map_nil]; first | exact List.nodup_nil | exact nodup_bid1 _ | exact nodup_bid2 (by assumption))
    | ((first | refine fresh_tup ?_ | skip); (repeat (first |  exact FreshA.sl _ _ FreshA_bs | exact FreshA.sl _ _ FreshA_is | exact FreshA.nils | exact FreshA.nilp | exact FreshA.int _ _ | exact FreshA.bool _ | exact FreshA.str _ | exact fresh_nil | refine fresh_cons ?_ ?_ | with_reducible refine fresh_aggR ?_ | with_reducible refine fresh_agg ?_ | with_reducible exact fresh_nilA | with_reducible refine fresh_consA ?_ ?_)); done)
    ))
    | ((conv => whnf) <;> (first
    | (with_reducible refine and_side ?_ ?_)
    | (with_reducible refine Br.yes rfl ?_)
    | (with_reducible refine NOut.lit ?_)
    ))
    )
  all_goals (conv => whnf)
  all_goals (try dsimp only)
  all_goals first
    | exact ret_bool rfl
    | trace_state
theorem small_call {σ : AH} {Q : AV → AH → Prop} (h : ∀ σ', Gr σ σ' none → Q (.bool true) σ') : CallS Try.prog F.joistlaw17_small [] σ Q :=
  call_one small_ok .nil rfl h
theorem SuperModes_ok (p s r o m b : Int) : AOKn Try.prog F.joistlaw17_SuperModes [shp p s r o, .int .i64 m, .int .i64 b] fun y => y = .bool true := by
  refine AOKn.by_steps mixed fc_joistlaw17_SuperModes_ok (by simp [fc_joistlaw17_SuperModes]) ?_
  repeat' (first
    | ((with_reducible refine Side.intro ?_) <;> (first
    | exact rfl
    ))
    | ((conv => whnf) <;> (first
    | (with_reducible refine and_side ?_ ?_)
    ))
    )
  all_goals (conv => whnf)
  all_goals (try dsimp only)
  refine small_call fun H0 hg0 => ?_
  have b0 := hg0.2 0 _ rfl (by simp)
  repeat' (first
    | ((with_reducible refine Side.intro ?_) <;> (first
    | exact Nat.le_of_ble_eq_true rfl
    ))
    | ((conv => whnf) <;> (first
    | (with_reducible refine and_side ?_ ?_)
    | ((with_reducible apply blkAt_intro) ; (focus (first
    | ((repeat (first
    | assumption
    )); done)
    )) ; (focus (first | rfl | assumption | omega)) ; (try dsimp only))
    ))
    )
  all_goals (conv => whnf)
  all_goals (try dsimp only)
  refine SRight_call p s r o 1 0 fun H1 hg1 => ?_
  replace b0 := hg1.2 0 _ (by (first
        | ((repeat (first
        | assumption
        )); done)
        )) (by simp)
  repeat' (first
    | ((with_reducible refine Side.intro ?_) <;> (first
    | exact Nat.le_of_ble_eq_true rfl
    ))
    | ((conv => whnf) <;> (first
    | (with_reducible refine and_side ?_ ?_)
    | ((with_reducible apply blkAt_intro) ; (focus (first
    | ((repeat (first
    | assumption
    )); done)
    )) ; (focus (first | rfl | assumption | omega)) ; (try dsimp only))
    ))
    )
  all_goals (conv => whnf)
  all_goals (try dsimp only)
  refine SRight_call p s r o m b fun H2 hg2 => ?_
  replace b0 := hg2.2 0 _ (by (first
        | ((repeat (first
        | assumption
        )); done)
        )) (by simp)
  have e1 : supB p s r o 1 0 = okA p s r o := by
    cases ho : okA p s r o
    · exact supB_no ho
    · have hb := sizedB_iff.1 (okA_iff.1 ho).1
      exact supB_iff.2 ⟨ho, by omega⟩
  rw [e1]
  cases ho : okA p s r o
  · rw [supB_no ho]
    repeat' (first
      | ((with_reducible refine Side.intro ?_) <;> (first
      | (simp only [List.append_nil, List.nil_append, List.map_nil]; first | exact List.nodup_nil | exact nodup_bid1 _ | exact nodup_bid2 (by assumption))
      | ((first | refine fresh_tup ?_ | skip); (repeat (first |  exact FreshA.sl _ _ FreshA_bs | exact FreshA.sl _ _ FreshA_is | exact FreshA.nils | exact FreshA.nilp | exact FreshA.int _ _ | exact FreshA.bool _ | exact FreshA.str _ | exact fresh_nil | refine fresh_cons ?_ ?_ | with_reducible refine fresh_aggR ?_ | with_reducible refine fresh_agg ?_ | with_reducible exact fresh_nilA | with_reducible refine fresh_consA ?_ ?_)); done)
      ))
      | ((conv => whnf) <;> (first
      | (with_reducible refine and_side ?_ ?_)
      | (with_reducible refine NOut.lit ?_)
      ))
      )
    all_goals (conv => whnf)
    all_goals (try dsimp only)
    exact ret_bool rfl
  · have e : supB p s r o m b = decide (0 ≤ b ∧ b ≤ p ∧ ((m = 1 ∧ b = 0) ∨ (m = 2 ∧ b = p) ∨ m = 3 ∨ m = 4)) := by rw [supB, ho, Bool.true_and]
    unfold shp at b0
    cases hd : decide (0 ≤ b ∧ b ≤ p ∧ ((m = 1 ∧ b = 0) ∨ (m = 2 ∧ b = p) ∨ m = 3 ∨ m = 4))
    all_goals
      rw [e, hd]
      simp only [decide_eq_true_eq, decide_eq_false_iff_not] at hd
      repeat' (first
        | ((with_reducible refine Side.intro ?_) <;> (first
        | (simp only [List.append_nil, List.nil_append, List.map_nil]; first | exact List.nodup_nil | exact nodup_bid1 _ | exact nodup_bid2 (by assumption))
        | ((first | refine fresh_tup ?_ | skip); (repeat (first |  exact FreshA.sl _ _ FreshA_bs | exact FreshA.sl _ _ FreshA_is | exact FreshA.nils | exact FreshA.nilp | exact FreshA.int _ _ | exact FreshA.bool _ | exact FreshA.str _ | exact fresh_nil | refine fresh_cons ?_ ?_ | with_reducible refine fresh_aggR ?_ | with_reducible refine fresh_agg ?_ | with_reducible exact fresh_nilA | with_reducible refine fresh_consA ?_ ?_)); done)
        ))
        | ((conv => whnf) <;> (first
        | (with_reducible refine and_same ?_)
        | (with_reducible refine and_side ?_ ?_)
        | (with_reducible refine Br.yes rfl ?_)
        | (with_reducible refine Br.yes (by omega) ?_)
        | (with_reducible refine Br.no (by omega) ?_)
        | (with_reducible refine Br.mk (fun _ => ?_) (fun _ => ?_))
        | ((with_reducible apply blkAt_intro) ; (focus (first
        | ((repeat (first
        | assumption
        )); done)
        )) ; (focus (first | rfl | assumption | omega)) ; (try dsimp only))
        | (with_reducible refine NOut.lit ?_)
        ))
        )
      all_goals (conv => whnf)
      all_goals (try dsimp only)
      all_goals first
        | exact ret_bool rfl
        | omega
        | trace_state
end Go.Proofs.Ytjjmcpnbaahkgaa
