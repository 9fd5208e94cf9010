import Derived.Test.YthakanioekmhbaaPlaw03
namespace Go.Proofs.Ythakanioekmhbaa
open Go Go.Proofs.Ythakanioekmhbaa.V
set_option maxRecDepth 20000
attribute [local irreducible] CallS AOK AOKn ALoop Side Ref.ok
theorem ask_fit {d : Dv} {at' n : Int} (hd : d.down = false) (h : 0 ≤ at' ∧ at' ≤ d.S.length ∧ 0 ≤ n ∧ n ≤ d.S.length - at') : askD d at' n = 0 := by
  unfold askD
  rw [if_neg (by simp [hd]), if_neg (by omega)]
theorem ask_not {d : Dv} {at' n : Int} (hd : d.down = false) (h : ¬ (0 ≤ at' ∧ at' ≤ d.S.length ∧ 0 ≤ n ∧ n ≤ d.S.length - at')) : askD d at' n = 1 := by
  unfold askD
  rw [if_neg (by simp [hd]), if_pos (by omega)]
theorem ask_down {d : Dv} {at' n : Int} (hd : d.down = true) : askD d at' n = 5 := if_pos hd
theorem begin_err {d : Dv} {at' n k : Int} (h : askD d at' n = k) (hk : k ≠ 0) : beginD d at' n = (k, d) := by
  unfold beginD; rw [h, if_pos hk]
theorem begin_last {d : Dv} {at' n : Int} (h : askD d at' n = 0) (ha : d.armed = 1) : beginD d at' n = (5, { d with armed := 0, down := true }) := by
  unfold beginD
  rw [if_neg (by simp [h]), if_pos (by omega), if_pos (by omega), ha]
  rfl
theorem begin_less {d : Dv} {at' n : Int} (h : askD d at' n = 0) (ha : 1 < d.armed) : beginD d at' n = (0, { d with armed := d.armed - 1 }) := by
  unfold beginD
  rw [if_neg (by simp [h]), if_pos (by omega), if_neg (by omega)]
theorem begin_un {d : Dv} {at' n : Int} (h : askD d at' n = 0) (ha : d.armed = 0) : beginD d at' n = (0, d) := by
  unfold beginD
  rw [if_neg (by simp [h]), if_neg (by omega)]
theorem store_err {d : Dv} {at' : Int} {b : List UInt8} {k : Int} {d1 : Dv} (h : beginD d at' b.length = (k, d1)) (hk : k ≠ 0) : storeD d at' b = (k, d1) := by
  unfold storeD; rw [h]; exact if_pos hk
theorem flush_err {d : Dv} {at' n k : Int} {d1 : Dv} (h : beginD d at' n = (k, d1)) (hk : k ≠ 0) : flushD d at' n = (k, d1) := by
  unfold flushD; rw [h]; exact if_pos hk
theorem fence_err {d : Dv} {k : Int} {d1 : Dv} (h : beginD d 0 0 = (k, d1)) (hk : k ≠ 0) : fenceD d = (k, d1) := by
  unfold fenceD; rw [h]; exact if_pos hk
theorem PmemAsks_ok (s : List UInt8) (at' n : Int) (b : List UInt8) (hs : s.length ≤ 4611686018) (hb : b.length ≤ 4611686018) : AOKn Try.prog F.joistlaw03_PmemAsks [.sl 1 (bs s) false, .int .i64 at', .int .i64 n, .sl 1 (bs b) false] fun y => y = .bool true := by
  have hns := bs_length s
  have hnb := bs_length b
  have ntt : ¬ (true ≠ true) := by simp
  have nff : ¬ (false ≠ false) := by simp
  have ess : s = s := rfl
  refine AOKn.by_steps mixed fc_joistlaw03_PmemAsks_ok (by simp [fc_joistlaw03_PmemAsks]) ?_
  skip
  all_goals (conv => whnf)
  all_goals (try dsimp only)
  refine call_one small_ok .nil rfl fun σ1 hg1 => ?_
  by_cases h1 : 2048 < (s.length : Int)
  · repeat' (first
      | ((with_reducible refine Side.intro ?_) <;> (first
      | (simp only [List.append_nil, List.nil_append, List.map_nil]; first | exact List.nodup_nil | exact nodup_bid1 _ | exact nodup_bid2 (by assumption))
      | ((first | refine fresh_tup ?_ | skip); (repeat (first |  exact FreshA.sl _ _ FreshA_bs | exact FreshA.sl _ _ FreshA_is | exact FreshA.nils | exact FreshA.nilp | exact FreshA.int _ _ | exact FreshA.bool _ | exact FreshA.str _ | exact fresh_nil | refine fresh_cons ?_ ?_ | with_reducible refine fresh_aggR ?_ | with_reducible refine fresh_agg ?_ | with_reducible exact fresh_nilA | with_reducible refine fresh_consA ?_ ?_)); done)
      ))
      | ((conv => whnf) <;> (first
      | (with_reducible refine and_same ?_)
      | (with_reducible refine and_side ?_ ?_)
      | ((with_reducible apply Br.yes) ; (focus omega))
      | (with_reducible refine NOut.lit ?_)
      | (with_reducible refine lenR_sl ?_)
      ))
      )
    all_goals (conv => whnf)
    all_goals (try dsimp only)
    exact ret_bool rfl
  by_cases h2 : 2048 < (b.length : Int)
  · repeat' (first
      | ((with_reducible refine Side.intro ?_) <;> (first
      | (simp only [List.append_nil, List.nil_append, List.map_nil]; first | exact List.nodup_nil | exact nodup_bid1 _ | exact nodup_bid2 (by assumption))
      | ((first | refine fresh_tup ?_ | skip); (repeat (first |  exact FreshA.sl _ _ FreshA_bs | exact FreshA.sl _ _ FreshA_is | exact FreshA.nils | exact FreshA.nilp | exact FreshA.int _ _ | exact FreshA.bool _ | exact FreshA.str _ | exact fresh_nil | refine fresh_cons ?_ ?_ | with_reducible refine fresh_aggR ?_ | with_reducible refine fresh_agg ?_ | with_reducible exact fresh_nilA | with_reducible refine fresh_consA ?_ ?_)); done)
      ))
      | ((conv => whnf) <;> (first
      | (with_reducible refine and_same ?_)
      | (with_reducible refine and_side ?_ ?_)
      | ((with_reducible apply Br.yes) ; (focus omega))
      | ((with_reducible apply Br.no) ; (focus omega))
      | (with_reducible refine NOut.lit ?_)
      | (with_reducible refine lenR_sl ?_)
      ))
      )
    all_goals (conv => whnf)
    all_goals (try dsimp only)
    exact ret_bool rfl
  repeat' (first
    | ((conv => whnf) <;> (first
    | (with_reducible refine and_same ?_)
    | ((with_reducible apply Br.no) ; (focus omega))
    | (with_reducible refine lenR_sl ?_)
    ))
    )
  all_goals (conv => whnf)
  all_goals (try dsimp only)
  refine New_ok (s := s) (.sl false rfl) hs _ ?_ ?_
  · intro hG a σ2 hg2 hD2 hn2
    have hR := DvR.new hG
    have box2 := hD2.box
    dsimp only at box2
    repeat' (first
      | ((conv => whnf) <;> (first
      | (with_reducible refine and_same ?_)
      | ((with_reducible apply Br.no) ; (focus omega))
      | ((with_reducible apply blkAt_step) ; (focus (first
      | ((repeat (first
      | assumption
      )); done)
      )) ; (focus (first | rfl | assumption | omega)) ; (focus (first | rfl | assumption)) ; (try dsimp only))
      ))
      )
    all_goals (conv => whnf)
    all_goals (try dsimp only)
    refine Arm_ok hD2 1 _ fun σ3 hD3 hg3 => ?_
    have hR3 := hR.arm (n := 1) (by decide)
    replace hD3 : DevH σ3 a ⟨s, s, [], 0, 1, false⟩ := hD3
    replace hR3 : DvR ⟨s, s, [], 0, 1, false⟩ := hR3
    skip
    all_goals (conv => whnf)
    all_goals (try dsimp only)
    refine View_ok hD3 (by dsimp only; omega) _ fun y σ4 hg4 ho4 hn4 => ?_
    have hD4 := hD3.keepN hg4
    dsimp only at ho4
    have hyn : ∀ id, a.has id → y.bid ≠ some id := fun id q e => by
      have := hD3.lt id q
      have := hn4 id e
      omega
    by_cases fit : 0 ≤ at' ∧ at' ≤ s.length ∧ 0 ≤ n ∧ n ≤ s.length - at'
    · have k0 : askD ⟨s, s, [], 0, 1, false⟩ at' n = 0 := ask_fit rfl fit
      have kb := begin_last k0 rfl
      repeat' (first
        | ((conv => whnf) <;> (first
        | (with_reducible refine and_same ?_)
        | ((with_reducible apply Br.yes) ; (focus omega))
        | ((with_reducible apply rowsR_own) ; (focus assumption))
        | (with_reducible refine lenR_sl ?_)
        | ((with_reducible apply bytesR_intro) ; (focus (first | rfl | (simp only [bs_take, bs_drop, bs_append]; rfl))))
        ))
        )
      all_goals (conv => whnf)
      all_goals (try dsimp only)
      refine Load_ok hD4 (by dsimp only; omega) at' n _ (fun _ y5 σ5 hg5 ho5 hn5 => ?_) (fun q => absurd k0 q)
      have hD5 := hD4.keepN hg5
      repeat' (first
        | ((conv => whnf) <;> (first
        | (with_reducible refine and_same ?_)
        | (with_reducible refine Br.yes rfl ?_)
        | ((with_reducible apply Br.no) ; (focus omega))
        ))
        )
      all_goals (conv => whnf)
      all_goals (try dsimp only)
      refine Down_ok hD5 _ ?_
      skip
      all_goals (conv => whnf)
      all_goals (try dsimp only)
      refine Flush_ok hD5 (by dsimp only; omega) ⟨by dsimp only; decide, by dsimp only; decide⟩ at' n _ fun σ6 hD6 hg6 => ?_
      rw [flush_err kb (by decide)] at hD6 ⊢
      dsimp only at hD6 ⊢
      repeat' (first
        | ((conv => whnf) <;> (first
        | (with_reducible refine and_same ?_)
        | (with_reducible refine Br.yes rfl ?_)
        ))
        )
      all_goals (conv => whnf)
      all_goals (try dsimp only)
      refine Down_ok hD6 _ ?_
      skip
      all_goals (conv => whnf)
      all_goals (try dsimp only)
      refine Store_ok hD6 (by dsimp only; omega) ⟨by dsimp only; decide, by dsimp only; decide⟩ 0 (b := b) (.sl false rfl) (fun _ _ q => by cases q) (by omega) _ fun σ7 hD7 hg7 => ?_
      rw [store_err (begin_err (ask_down rfl) (by decide)) (by decide)] at hD7 ⊢
      dsimp only at hD7 ⊢
      repeat' (first
        | ((conv => whnf) <;> (first
        | (with_reducible refine and_same ?_)
        | (with_reducible refine Br.yes rfl ?_)
        ))
        )
      all_goals (conv => whnf)
      all_goals (try dsimp only)
      refine View_ok hD7 (by dsimp only; omega) _ fun y8 σ8 hg8 ho8 hn8 => ?_
      dsimp only at ho8
      repeat' (first
        | ((with_reducible refine Side.intro ?_) <;> (first
        | (simp only [List.append_nil, List.nil_append, List.map_nil]; first | exact List.nodup_nil | exact nodup_bid1 _ | exact nodup_bid2 (by assumption))
        | ((first | refine fresh_tup ?_ | skip); (repeat (first |  exact FreshA.sl _ _ FreshA_bs | exact FreshA.sl _ _ FreshA_is | exact FreshA.nils | exact FreshA.nilp | exact FreshA.int _ _ | exact FreshA.bool _ | exact FreshA.str _ | exact fresh_nil | refine fresh_cons ?_ ?_ | with_reducible refine fresh_aggR ?_ | with_reducible refine fresh_agg ?_ | with_reducible exact fresh_nilA | with_reducible refine fresh_consA ?_ ?_)); done)
        ))
        | ((conv => whnf) <;> (first
        | (with_reducible refine and_side ?_ ?_)
        | (with_reducible refine Br.yes rfl ?_)
        | ((with_reducible apply rowsR_own) ; (focus assumption))
        | (with_reducible refine NOut.lit ?_)
        | ((with_reducible apply bytesR_intro) ; (focus (first | rfl | (simp only [bs_take, bs_drop, bs_append]; rfl))))
        ))
        )
      all_goals (conv => whnf)
      all_goals (try dsimp only)
      exact ret_bool rfl
    · have k0 : askD ⟨s, s, [], 0, 1, false⟩ at' n = 1 := ask_not rfl fit
      repeat' (first
        | ((conv => whnf) <;> (first
        | (with_reducible refine and_same ?_)
        | ((with_reducible apply Br.yes) ; (focus omega))
        | ((with_reducible apply Br.no) ; (focus omega))
        | (with_reducible refine Br.mk (fun _ => ?_) (fun _ => ?_))
        | ((with_reducible apply rowsR_own) ; (focus assumption))
        | (with_reducible refine lenR_sl ?_)
        | ((with_reducible apply bytesR_intro) ; (focus (first | rfl | (simp only [bs_take, bs_drop, bs_append]; rfl))))
        ))
        )
      all_goals (conv => whnf)
      all_goals (try dsimp only)
      all_goals
        refine Load_ok hD4 (by dsimp only; omega) at' n _ (fun q => by rw [k0] at q; cases q) (fun _ => ?_)
        rw [k0]
        repeat' (first
          | ((conv => whnf) <;> (first
          | (with_reducible refine and_same ?_)
          | ((with_reducible apply Br.yes) ; (focus omega))
          | ((with_reducible apply Br.no) ; (focus omega))
          ))
          )
        all_goals (conv => whnf)
        all_goals (try dsimp only)
        refine Down_ok hD4 _ ?_
        skip
        all_goals (conv => whnf)
        all_goals (try dsimp only)
        refine Flush_ok hD4 (by dsimp only; omega) ⟨by dsimp only; decide, by dsimp only; decide⟩ at' n _ fun σ6 hD6 hg6 => ?_
        rw [flush_err (begin_err k0 (by decide)) (by decide)] at hD6 ⊢
        dsimp only at hD6 ⊢
        repeat' (first
          | ((conv => whnf) <;> (first
          | (with_reducible refine and_same ?_)
          | (with_reducible refine Br.yes rfl ?_)
          ))
          )
        all_goals (conv => whnf)
        all_goals (try dsimp only)
        refine Down_ok hD6 _ ?_
        skip
        all_goals (conv => whnf)
        all_goals (try dsimp only)
        refine View_ok hD6 (by dsimp only; omega) _ fun y8 σ8 hg8 ho8 hn8 => ?_
        have hD8 := hD6.keepN hg8
        dsimp only at ho8
        repeat' (first
          | ((conv => whnf) <;> (first
          | (with_reducible refine Br.yes rfl ?_)
          | ((with_reducible apply rowsR_own) ; (focus assumption))
          | ((with_reducible apply bytesR_intro) ; (focus (first | rfl | (simp only [bs_take, bs_drop, bs_append]; rfl))))
          ))
          )
        all_goals (conv => whnf)
        all_goals (try dsimp only)
        refine Fence_ok hD8 hR3.ok _ fun σ9 hD9 hg9 => ?_
        rw [fence_err (begin_last (ask_fit rfl ⟨by decide, by dsimp only; omega, by decide, by dsimp only; omega⟩) rfl) (by decide)] at hD9 ⊢
        dsimp only at hD9 ⊢
        repeat' (first
          | ((conv => whnf) <;> (first
          | (with_reducible refine and_same ?_)
          | (with_reducible refine Br.yes rfl ?_)
          ))
          )
        all_goals (conv => whnf)
        all_goals (try dsimp only)
        refine Down_ok hD9 _ ?_
        repeat' (first
          | ((with_reducible refine Side.intro ?_) <;> (first
          | (simp only [List.append_nil, List.nil_append, List.map_nil]; first | exact List.nodup_nil | exact nodup_bid1 _ | exact nodup_bid2 (by assumption))
          | ((first | refine fresh_tup ?_ | skip); (repeat (first |  exact FreshA.sl _ _ FreshA_bs | exact FreshA.sl _ _ FreshA_is | exact FreshA.nils | exact FreshA.nilp | exact FreshA.int _ _ | exact FreshA.bool _ | exact FreshA.str _ | exact fresh_nil | refine fresh_cons ?_ ?_ | with_reducible refine fresh_aggR ?_ | with_reducible refine fresh_agg ?_ | with_reducible exact fresh_nilA | with_reducible refine fresh_consA ?_ ?_)); done)
          ))
          | ((conv => whnf) <;> (first
          | (with_reducible refine and_side ?_ ?_)
          | (with_reducible refine NOut.lit ?_)
          ))
          )
        all_goals (conv => whnf)
        all_goals (try dsimp only)
        exact ret_bool rfl
  · intro hG σ2 hg2
    repeat' (first
      | ((with_reducible refine Side.intro ?_) <;> (first
      | (simp only [List.append_nil, List.nil_append, List.map_nil]; first | exact List.nodup_nil | exact nodup_bid1 _ | exact nodup_bid2 (by assumption))
      | ((first | refine fresh_tup ?_ | skip); (repeat (first |  exact FreshA.sl _ _ FreshA_bs | exact FreshA.sl _ _ FreshA_is | exact FreshA.nils | exact FreshA.nilp | exact FreshA.int _ _ | exact FreshA.bool _ | exact FreshA.str _ | exact fresh_nil | refine fresh_cons ?_ ?_ | with_reducible refine fresh_aggR ?_ | with_reducible refine fresh_agg ?_ | with_reducible exact fresh_nilA | with_reducible refine fresh_consA ?_ ?_)); done)
      ))
      | ((conv => whnf) <;> (first
      | (with_reducible refine and_same ?_)
      | (with_reducible refine and_side ?_ ?_)
      | (with_reducible refine Br.yes rfl ?_)
      | ((with_reducible apply Br.yes) ; (focus omega))
      | (with_reducible refine NOut.lit ?_)
      ))
      )
    all_goals (conv => whnf)
    all_goals (try dsimp only)
    exact ret_bool rfl
end Go.Proofs.Ythakanioekmhbaa
