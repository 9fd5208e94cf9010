import Derived.Test.YtjbfdhnfdehdeaaPwords
namespace Go.Proofs.Ytjbfdhnfdehdeaa
open Go Go.Proofs.Ytjbfdhnfdehdeaa.V
set_option maxRecDepth 20000
attribute [local irreducible] CallS AOK AOKn ALoop Side Ref.ok
theorem Bytes_ok (n : Nat) (hn : n < 4611686018427387904) : AOKn Try.prog F.joistref01_Bytes [.int .i64 n] fun y => y = .sl 1 (bs (le 8 n)) true := by
  refine AOKn.by_steps mixed fc_joistref01_Bytes_ok (by simp [fc_joistref01_Bytes]) ?_
  skip
  all_goals (conv => whnf)
  all_goals (try dsimp only)
  refine loop_at (α := Nat × AH × AV) (fun a => [(0, .int .i64 (n / 256 ^ a.1 : Nat)), (3, a.2.2), (4, .int .i64 a.1)]) (fun a => a.2.1) (fun a => a.1 ≤ 8 ∧ Own a.2.1 1 a.2.2 (bs ((le 8 n).take a.1))) (fun a => 8 - a.1) (0, [], .nils) ⟨by omega, Own.nil _ _⟩ (by simp [Fr.upd, Fr.pick]) rfl ?_
  rintro ⟨k, σ, acc⟩ ⟨hk, hacc⟩
  dsimp only at hk hacc ⊢
  have hd : n / 256 ^ k ≤ n := Nat.div_le_self _ _
  have hlk : (bs ((le 8 n).take k)).length = k := by rw [bs_length, List.length_take, le_length]; omega
  generalize hm : n / 256 ^ k = m at *
  by_cases hlt : k < 8
  · repeat' (first
      | ((with_reducible refine Side.intro ?_) <;> (first
      | omega
      | exact Nat.le_of_ble_eq_true rfl
      | exact rfl
      ))
      | ((conv => whnf) <;> (first
      | (with_reducible refine and_same ?_)
      | (with_reducible refine and_side ?_ ?_)
      | ((with_reducible apply Br.yes) ; (focus omega))
      | ((with_reducible apply blkAt_intro) ; (focus (first
      | ((repeat (first
      | exact get_new
      )); done)
      )) ; (focus (first | rfl | assumption | omega)) ; (try dsimp only))
      | (with_reducible refine AppC.frz ?_)
      | (with_reducible refine rowsR_rsl ?_)
      ))
      )
    all_goals (conv => whnf)
    all_goals (try dsimp only)
    refine appendR_own (rows := bs ((le 8 n).take k)) (hacc.keepN (by (repeat (first
          | exact Gr.refl _ _
          | refine Gr.addN ?_ _
          )))) (by rw [hlk]; simp only [List.length_take, List.length_drop, List.length_set, List.length_replicate]; omega) ?_
    intro acc' σ' ho' hg' hb'
    repeat' (first
      | ((with_reducible refine Side.intro ?_) <;> (first
      | omega
      ))
      | ((conv => whnf) <;> (first
      | (with_reducible refine and_same ?_)
      | (with_reducible refine and_side ?_ ?_)
      | ((with_reducible apply Br.yes) ; (focus omega))
      ))
      )
    all_goals (conv => whnf)
    all_goals (try dsimp only)
    refine ⟨(k + 1, σ', acc'), ?_, rfl, ⟨by omega, ?_⟩, by omega⟩
    · dsimp only
      rw [Nat.pow_succ, ← Nat.div_div_eq_div_mul, hm]
      rfl
    · dsimp only
      rw [List.take_add_one, le_get 8 n k hlt, hm, ← bs_append]
      refine (cast (congrArg (fun r => Own σ' 1 acc' (_ ++ r)) ?_) ho')
      simp [bs, AV.cells]
  · have hk8 : k = 8 := by omega
    subst hk8
    rw [List.take_of_length_le (by rw [le_length]; exact Nat.le_refl _)] at hacc hlk
    obtain ⟨id, gen, sp, rfl, hb⟩ := hacc.ne (fun e => by rw [e] at hlk; simp at hlk)
    repeat' (first
      | ((with_reducible refine Side.intro ?_) <;> (first
      | ((first | refine fresh_tup ?_ | skip); (repeat (first |  exact FreshA.sl _ _ FreshA_bs | exact FreshA.sl _ _ FreshA_is | exact FreshA.nils | exact FreshA.nilp | exact FreshA.int _ _ | exact FreshA.bool _ | exact FreshA.str _ | exact fresh_nil | refine fresh_cons ?_ ?_ | with_reducible refine fresh_aggR ?_ | with_reducible refine fresh_agg ?_ | with_reducible exact fresh_nilA | with_reducible refine fresh_consA ?_ ?_)); done)
      ))
      | ((conv => whnf) <;> (first
      | (with_reducible refine and_same ?_)
      | (with_reducible refine and_side ?_ ?_)
      | ((with_reducible apply Br.no) ; (focus omega))
      | ((with_reducible apply NOut.own) ; (focus assumption))
      ))
      )
    all_goals (conv => whnf)
    all_goals (try dsimp only)
    all_goals (try rw [List.take_left])
    all_goals first
      | exact ret_same rfl
      | exact Side.intro (fresh_bs _)
      | exact Side.intro (nodup_bid1 _)
theorem ref_Get_ok (s : List UInt8) (at' : Int) (hs : s.length ≤ 4611686018427) : AOKn Try.prog F.joistref01_Get [.sl 1 (bs s) false, .int .i64 at'] fun y => y = .tup [.int .i64 (getV s at'), .bool (getOk s at')] := by
  have hn := bs_length s
  refine AOKn.by_steps mixed fc_joistref01_Get_ok (by simp [fc_joistref01_Get]) ?_
  by_cases hr : 0 ≤ at' ∧ at' < (s.length : Int) / 8
  · have hi : inR s at' = true := by simp only [inR, decide_eq_true_eq]; omega
    have hl := wd_length (s := s) (i := at'.toNat) (by omega)
    have hl2 := bs_length (wd s at'.toNat)
    have ew : List.drop (8 * at').toNat (List.take (8 * at' + 8).toNat (bs s)) = bs (wd s at'.toNat) := by
      rw [bs_take, bs_drop, List.drop_take, show (8 * at' + 8).toNat - (8 * at').toNat = 8 from by omega, show (8 * at').toNat = at'.toNat * 8 from by omega]; rfl
    repeat' (first
      | ((with_reducible refine Side.intro ?_) <;> (first
      | omega
      ))
      | ((conv => whnf) <;> (first
      | (with_reducible refine and_same ?_)
      | (with_reducible refine and_side ?_ ?_)
      | ((with_reducible apply Br.yes) ; (focus omega))
      | ((with_reducible apply Br.no) ; (focus omega))
      | (with_reducible refine ia_sl ?_ ?_)
      | (with_reducible refine SliceW.of ?_)
      | (with_reducible refine lenR_sl ?_)
      ))
      )
    all_goals (conv => whnf)
    all_goals (try dsimp only)
    rw [ew]
    generalize hw : wd s at'.toNat = w at *
    obtain ⟨b7, h7⟩ : ∃ b, w[Int.toNat 7]? = some b := ⟨w[7], by simp [hl]⟩
    have h7l := b7.toNat_lt
    have hk : okW w = decide (b7.toNat < 64) := by
      unfold okW
      rw [List.getD_eq_getElem?_getD]
      have : w[7]? = some b7 := h7
      rw [this]; rfl
    repeat' (first
      | ((with_reducible refine Side.intro ?_) <;> (first
      | (simp only [List.append_nil, List.nil_append, List.map_nil]; first | exact List.nodup_nil | exact nodup_bid1 _ | exact nodup_bid2 (by assumption))
      | ((first | refine fresh_tup ?_ | skip); (repeat (first |  exact FreshA.sl _ _ FreshA_bs | exact FreshA.sl _ _ FreshA_is | exact FreshA.nils | exact FreshA.nilp | exact FreshA.int _ _ | exact FreshA.bool _ | exact FreshA.str _ | exact fresh_nil | refine fresh_cons ?_ ?_ | with_reducible refine fresh_aggR ?_ | with_reducible refine fresh_agg ?_ | with_reducible exact fresh_nilA | with_reducible refine fresh_consA ?_ ?_)); done)
      ))
      | ((conv => whnf) <;> (first
      | (with_reducible refine and_same ?_)
      | (with_reducible refine and_side ?_ ?_)
      | (with_reducible refine Br.mk (fun _ => ?_) (fun _ => ?_))
      | ((with_reducible apply nthR_bs1) ; (focus assumption))
      | (with_reducible refine NOut.lit ?_)
      ))
      )
    all_goals (conv => whnf)
    all_goals (try dsimp only)
    · have hf : okW w = false := by rw [hk]; exact decide_eq_false (by omega)
      exact ret_same (by simp [getV, getOk, hi, hw, hf])
    refine loop_at (α := Nat) (fun a => [(7, .int .i64 (val (w.drop (8 - a)))), (8, .int .i64 (7 - (a : Int)))]) (fun a => []) (fun a => a ≤ 8) (fun a => 8 - a) 0 (by omega) (by simp [Fr.upd, Fr.pick, List.drop_of_length_le, hl, val]) rfl ?_
    intro i hi8
    by_cases hlt : i < 8
    · obtain ⟨b, hb⟩ : ∃ b, w[(7 - (i : Int)).toNat]? = some b := ⟨w[(7 - (i : Int)).toNat]'(by omega), by simp⟩
      have hbl := b.toNat_lt
      have hb1 : w[7 - i]? = some b := by rw [show 7 - i = (7 - (i : Int)).toNat from by omega]; exact hb
      have e1 := val_drop hb1
      have e2 := val_top (w.drop (7 - i)) i (by rw [List.length_drop, hl]; omega) (by
        rw [List.getD_eq_getElem?_getD, List.getElem?_drop, show 7 - i + i = Int.toNat 7 from by omega, h7]
        show b7.toNat < 64
        omega)
      have e3 : 64 * 256 ^ i ≤ 64 * 256 ^ 7 := Nat.mul_le_mul_left _ (Nat.pow_le_pow_right (by omega) (by omega))
      have e4 : 64 * 256 ^ 7 = 4611686018427387904 := by decide
      rw [show 7 - i + 1 = 8 - i from by omega] at e1
      have e5 : val (w.drop (7 - i)) < 4611686018427387904 := by omega
      repeat' (first
        | ((with_reducible refine Side.intro ?_) <;> (first
        | omega
        ))
        | ((conv => whnf) <;> (first
        | (with_reducible refine and_same ?_)
        | ((with_reducible apply Br.yes) ; (focus omega))
        | ((with_reducible apply nthR_bs1) ; (focus assumption))
        | (with_reducible refine ia_sl ?_ ?_)
        ))
        )
      all_goals (conv => whnf)
      all_goals (try dsimp only)
      refine ⟨i + 1, ?_, rfl, by omega, by omega⟩
      rw [show 8 - (i + 1) = 7 - i from by omega, e1]
      have f1 : ((val (w.drop (8 - i)) : Nat) : Int) * 256 + (b.toNat : Int) = ((b.toNat + 256 * val (w.drop (8 - i)) : Nat) : Int) := by omega
      have f2 : 7 - (i : Int) - 1 = 7 - ((i + 1 : Nat) : Int) := by omega
      rw [f1, f2]
      rfl
    · have e8 : i = 8 := by omega
      subst e8
      repeat' (first
        | ((with_reducible refine Side.intro ?_) <;> (first
        | (simp only [List.append_nil, List.nil_append, List.map_nil]; first | exact List.nodup_nil | exact nodup_bid1 _ | exact nodup_bid2 (by assumption))
        | ((first | refine fresh_tup ?_ | skip); (repeat (first |  exact FreshA.sl _ _ FreshA_bs | exact FreshA.sl _ _ FreshA_is | exact FreshA.nils | exact FreshA.nilp | exact FreshA.int _ _ | exact FreshA.bool _ | exact FreshA.str _ | exact fresh_nil | refine fresh_cons ?_ ?_ | with_reducible refine fresh_aggR ?_ | with_reducible refine fresh_agg ?_ | with_reducible exact fresh_nilA | with_reducible refine fresh_consA ?_ ?_)); done)
        ))
        | ((conv => whnf) <;> (first
        | (with_reducible refine and_same ?_)
        | (with_reducible refine and_side ?_ ?_)
        | ((with_reducible apply Br.no) ; (focus omega))
        | (with_reducible refine NOut.lit ?_)
        ))
        )
      all_goals (conv => whnf)
      all_goals (try dsimp only)
      have hf : okW w = true := by rw [hk]; exact decide_eq_true (by omega)
      exact ret_same (by simp [getV, getOk, hi, hw, hf])
  · have hi : inR s at' = false := by simp only [inR, decide_eq_false_iff_not]; omega
    repeat' (first
      | ((with_reducible refine Side.intro ?_) <;> (first
      | omega
      | (simp only [List.append_nil, List.nil_append, List.map_nil]; first | exact List.nodup_nil | exact nodup_bid1 _ | exact nodup_bid2 (by assumption))
      | ((first | refine fresh_tup ?_ | skip); (repeat (first |  exact FreshA.sl _ _ FreshA_bs | exact FreshA.sl _ _ FreshA_is | exact FreshA.nils | exact FreshA.nilp | exact FreshA.int _ _ | exact FreshA.bool _ | exact FreshA.str _ | exact fresh_nil | refine fresh_cons ?_ ?_ | with_reducible refine fresh_aggR ?_ | with_reducible refine fresh_agg ?_ | with_reducible exact fresh_nilA | with_reducible refine fresh_consA ?_ ?_)); done)
      ))
      | ((conv => whnf) <;> (first
      | (with_reducible refine and_same ?_)
      | (with_reducible refine and_side ?_ ?_)
      | ((with_reducible apply Br.yes) ; (focus omega))
      | (with_reducible refine Br.mk (fun _ => ?_) (fun _ => ?_))
      | (with_reducible refine NOut.lit ?_)
      | (with_reducible refine lenR_sl ?_)
      ))
      )
    all_goals (conv => whnf)
    all_goals (try dsimp only)
    all_goals exact ret_same (by simp [getV, getOk, hi])
theorem ref_Put_ok (s : List UInt8) (at' n : Int) (hs : s.length ≤ 4611686018427) : AOKn Try.prog F.joistref01_Put [.sl 1 (bs s) false, .int .i64 at', .int .i64 n] fun y => y = .tup [.sl 1 (bs (putR s at' n)) true, .int .i64 (putE s at' n)] := by
  have hn := bs_length s
  refine AOKn.by_steps mixed fc_joistref01_Put_ok (by simp [fc_joistref01_Put]) ?_
  by_cases hr : 0 ≤ at' ∧ at' < (s.length : Int) / 8
  · have hi : inR s at' = true := by simp only [inR, decide_eq_true_eq]; omega
    by_cases hm : 0 ≤ n ∧ n ≤ 4611686018427387903
    · have hm' : mayW n = true := by simp only [mayW, decide_eq_true_eq]; exact hm
      have e1 : putE s at' n = 0 := by simp [putE, hi, hm']
      have e2 : putR s at' n = put1 s at'.toNat n.toNat := by simp [putR, e1]
      rw [e1, e2]
      repeat' (first
        | ((with_reducible refine Side.intro ?_) <;> (first
        | omega
        | (simp only [bs_length, List.length_append, List.length_cons, List.length_nil, List.length_take, List.length_drop, List.length_set, List.length_replicate]; omega)
        ))
        | ((conv => whnf) <;> (first
        | (with_reducible refine and_same ?_)
        | (with_reducible refine and_side ?_ ?_)
        | ((with_reducible apply Br.yes) ; (focus omega))
        | ((with_reducible apply Br.no) ; (focus omega))
        | ((with_reducible apply appendR_lit) ; (focus (first
        | exact rfl
        )) ; (focus (first | rfl | assumption)) ; (focus rfl) ; (focus rfl) ; (focus rfl) ; (focus (first | exact Nat.zero_le _ | omega | (simp; done) | (simp; omega))) ; (try dsimp only))
        | (with_reducible refine SliceW.of ?_)
        | (with_reducible refine AppC.frz ?_)
        | (with_reducible refine lenR_sl ?_)
        | (with_reducible refine rowsR_sl ?_)
        ))
        )
      all_goals (conv => whnf)
      all_goals (try dsimp only)
      have hnn : n = (n.toNat : Int) := by omega
      rw [hnn]
      refine (Bytes_ok n.toNat (by omega)).call (.cons (.int _ _ _) .nil) ?_
      rintro _ x σ1 rfl hg hG
      obtain ⟨hx, hxb⟩ := hG.sl_inv
      have ho1 := Own.keepN hg (Own.mk' (sz := 1) (id := 0) (gen := 0 + 1) (rows := bs (s.take (at'.toNat * 8))) (sp := []) (len := 0 + (List.drop (Int.toNat 0) (List.take (8 * at').toNat (bs s))).length) rfl (by rw [bs_take, show (8 * at').toNat = at'.toNat * 8 from by omega]; simp) (by rw [bs_take, show (8 * at').toNat = at'.toNat * 8 from by omega]; simp))
      have hxl := bs_length (le 8 n.toNat)
      rw [le_length] at hxl
      repeat' (first
        | ((conv => whnf) <;> (first
        | ((with_reducible apply rowsR_own) ; (focus assumption))
        | (with_reducible refine AppC.frz ?_)
        ))
        )
      all_goals (conv => whnf)
      all_goals (try dsimp only)
      have hl3 : (bs (s.take (at'.toNat * 8))).length = at'.toNat * 8 := by rw [bs_length, List.length_take]; omega
      refine appendR_own (rows := bs (s.take (at'.toNat * 8))) ?_ ?_ ?_
      · exact ho1
      · rw [hl3, hxl]; omega
      intro acc1 σ2 ho2 hg2 hb2
      have el2 : (bs (s.take (at'.toNat * 8)) ++ bs (le 8 n.toNat)).length = at'.toNat * 8 + 8 := by
        rw [List.length_append, bs_length, bs_length, le_length, List.length_take]; omega
      repeat' (first
        | ((with_reducible refine Side.intro ?_) <;> (first
        | omega
        ))
        | ((conv => whnf) <;> (first
        | (with_reducible refine and_same ?_)
        | (with_reducible refine and_side ?_ ?_)
        | ((with_reducible apply Br.yes) ; (focus omega))
        | (with_reducible refine SliceW.of ?_)
        | (with_reducible refine AppC.frz ?_)
        | (with_reducible refine rowsR_sl ?_)
        ))
        )
      all_goals (conv => whnf)
      all_goals (try dsimp only)
      refine appendR_own (rows := bs (s.take (at'.toNat * 8)) ++ bs (le 8 n.toNat)) ?_ ?_ ?_
      · exact ho2
      · rw [el2]; simp only [List.length_take, List.length_drop, bs_length]; omega
      intro acc3 σ3 ho3 hg3 hb3
      have e3 : List.drop (8 * at' + 8).toNat (List.take ((bs s).length : Int).toNat (bs s)) = bs (s.drop (at'.toNat * 8 + 8)) := by
        rw [Int.toNat_natCast, List.take_length, bs_drop, show (8 * at' + 8).toNat = at'.toNat * 8 + 8 from by omega]
      rw [e3, bs_append, bs_append] at ho3
      repeat' (first
        | ((with_reducible refine Side.intro ?_) <;> (first
        | (simp only [List.append_nil, List.nil_append, List.map_nil]; first | exact List.nodup_nil | exact nodup_bid1 _ | exact nodup_bid2 (by assumption))
        | ((first | refine fresh_tup ?_ | skip); (repeat (first |  exact FreshA.sl _ _ FreshA_bs | exact FreshA.sl _ _ FreshA_is | exact FreshA.nils | exact FreshA.nilp | exact FreshA.int _ _ | exact FreshA.bool _ | exact FreshA.str _ | exact fresh_nil | refine fresh_cons ?_ ?_ | with_reducible refine fresh_aggR ?_ | with_reducible refine fresh_agg ?_ | with_reducible exact fresh_nilA | with_reducible refine fresh_consA ?_ ?_)); done)
        ))
        | ((conv => whnf) <;> (first
        | (with_reducible refine and_side ?_ ?_)
        | ((with_reducible apply NOut.own) ; (focus assumption))
        | (with_reducible refine NOut.lit ?_)
        ))
        )
      all_goals (conv => whnf)
      all_goals (try dsimp only)
      exact ret_same (by rw [Int.toNat_natCast]; rfl)
    · have hm' : mayW n = false := by simp only [mayW, decide_eq_false_iff_not]; exact hm
      have e1 : putE s at' n = 4 := by simp [putE, hi, hm']
      have e2 : putR s at' n = [] := by simp [putR, e1]
      rw [e1, e2]
      repeat' (first
        | ((with_reducible refine Side.intro ?_) <;> (first
        | omega
        | (simp only [List.append_nil, List.nil_append, List.map_nil]; first | exact List.nodup_nil | exact nodup_bid1 _ | exact nodup_bid2 (by assumption))
        | ((first | refine fresh_tup ?_ | skip); (repeat (first |  exact FreshA.sl _ _ FreshA_bs | exact FreshA.sl _ _ FreshA_is | exact FreshA.nils | exact FreshA.nilp | exact FreshA.int _ _ | exact FreshA.bool _ | exact FreshA.str _ | exact fresh_nil | refine fresh_cons ?_ ?_ | with_reducible refine fresh_aggR ?_ | with_reducible refine fresh_agg ?_ | with_reducible exact fresh_nilA | with_reducible refine fresh_consA ?_ ?_)); done)
        ))
        | ((conv => whnf) <;> (first
        | (with_reducible refine and_same ?_)
        | (with_reducible refine and_side ?_ ?_)
        | ((with_reducible apply Br.yes) ; (focus omega))
        | ((with_reducible apply Br.no) ; (focus omega))
        | (with_reducible refine Br.mk (fun _ => ?_) (fun _ => ?_))
        | (with_reducible refine NOut.lit ?_)
        | (with_reducible refine lenR_sl ?_)
        ))
        )
      all_goals (conv => whnf)
      all_goals (try dsimp only)
      all_goals exact ret_nilt rfl
  · have hi : inR s at' = false := by simp only [inR, decide_eq_false_iff_not]; omega
    have e1 : putE s at' n = 1 := by simp [putE, hi]
    have e2 : putR s at' n = [] := by simp [putR, e1]
    rw [e1, e2]
    repeat' (first
      | ((with_reducible refine Side.intro ?_) <;> (first
      | omega
      | (simp only [List.append_nil, List.nil_append, List.map_nil]; first | exact List.nodup_nil | exact nodup_bid1 _ | exact nodup_bid2 (by assumption))
      | ((first | refine fresh_tup ?_ | skip); (repeat (first |  exact FreshA.sl _ _ FreshA_bs | exact FreshA.sl _ _ FreshA_is | exact FreshA.nils | exact FreshA.nilp | exact FreshA.int _ _ | exact FreshA.bool _ | exact FreshA.str _ | exact fresh_nil | refine fresh_cons ?_ ?_ | with_reducible refine fresh_aggR ?_ | with_reducible refine fresh_agg ?_ | with_reducible exact fresh_nilA | with_reducible refine fresh_consA ?_ ?_)); done)
      ))
      | ((conv => whnf) <;> (first
      | (with_reducible refine and_same ?_)
      | (with_reducible refine and_side ?_ ?_)
      | ((with_reducible apply Br.yes) ; (focus omega))
      | (with_reducible refine Br.mk (fun _ => ?_) (fun _ => ?_))
      | (with_reducible refine NOut.lit ?_)
      | (with_reducible refine lenR_sl ?_)
      ))
      )
    all_goals (conv => whnf)
    all_goals (try dsimp only)
    all_goals exact ret_nilt rfl
theorem Same_ok (a b : List Int) (ha : a.length ≤ 4611686018427) (hb : b.length ≤ 4611686018427) : AOKn Try.prog F.joistref01_Same [.sl 1 (is a) false, .sl 1 (is b) false] fun y => y = .bool (decide (a = b)) := by
  have hn := is_length a
  have hm := is_length b
  refine AOKn.by_steps mixed fc_joistref01_Same_ok (by simp [fc_joistref01_Same]) ?_
  by_cases hl : a.length = b.length
  · repeat' (first
      | ((conv => whnf) <;> (first
      | (with_reducible refine and_same ?_)
      | ((with_reducible apply Br.no) ; (focus omega))
      | (with_reducible refine lenR_sl ?_)
      ))
      )
    all_goals (conv => whnf)
    all_goals (try dsimp only)
    refine loop_at (α := Nat) (fun k => [(5, .int .i64 k)]) (fun k => []) (fun k => k ≤ a.length ∧ a.take k = b.take k) (fun k => a.length - k) 0 ⟨by omega, by simp⟩ rfl rfl ?_
    rintro k ⟨hk, hall⟩
    by_cases hlt : k < a.length
    · obtain ⟨p, hp, hp'⟩ := getN hlt
      obtain ⟨q, hq, hq'⟩ := getN (l := b) (k := k) (by omega)
      by_cases h0 : p = q
      · repeat' (first
          | ((with_reducible refine Side.intro ?_) <;> (first
          | omega
          ))
          | ((conv => whnf) <;> (first
          | (with_reducible refine and_same ?_)
          | ((with_reducible apply Br.yes) ; (focus omega))
          | ((with_reducible apply Br.no) ; (focus omega))
          | ((with_reducible apply nthR_is1) ; (focus assumption))
          | (with_reducible refine ia_sl ?_ ?_)
          | (with_reducible refine lenR_sl ?_)
          ))
          )
        all_goals (conv => whnf)
        all_goals (try dsimp only)
        refine ⟨k + 1, rfl, rfl, ⟨by omega, ?_⟩, by omega⟩
        rw [List.take_add_one, List.take_add_one, hp', hq', hall, h0]
      · have e1 : a ≠ b := fun e => h0 (by rw [e, hq'] at hp'; exact (Option.some.inj hp').symm)
        rw [decide_eq_false e1]
        repeat' (first
          | ((with_reducible refine Side.intro ?_) <;> (first
          | omega
          | (simp only [List.append_nil, List.nil_append, List.map_nil]; first | exact List.nodup_nil | exact nodup_bid1 _ | exact nodup_bid2 (by assumption))
          | ((first | refine fresh_tup ?_ | skip); (repeat (first |  exact FreshA.sl _ _ FreshA_bs | exact FreshA.sl _ _ FreshA_is | exact FreshA.nils | exact FreshA.nilp | exact FreshA.int _ _ | exact FreshA.bool _ | exact FreshA.str _ | exact fresh_nil | refine fresh_cons ?_ ?_ | with_reducible refine fresh_aggR ?_ | with_reducible refine fresh_agg ?_ | with_reducible exact fresh_nilA | with_reducible refine fresh_consA ?_ ?_)); done)
          ))
          | ((conv => whnf) <;> (first
          | (with_reducible refine and_same ?_)
          | (with_reducible refine and_side ?_ ?_)
          | ((with_reducible apply Br.yes) ; (focus omega))
          | ((with_reducible apply nthR_is1) ; (focus assumption))
          | (with_reducible refine ia_sl ?_ ?_)
          | (with_reducible refine NOut.lit ?_)
          | (with_reducible refine lenR_sl ?_)
          ))
          )
        all_goals (conv => whnf)
        all_goals (try dsimp only)
        exact ret_same rfl
    · have e1 : a = b := by
        rw [List.take_of_length_le (by omega), List.take_of_length_le (by omega)] at hall
        exact hall
      rw [decide_eq_true e1]
      repeat' (first
        | ((with_reducible refine Side.intro ?_) <;> (first
        | (simp only [List.append_nil, List.nil_append, List.map_nil]; first | exact List.nodup_nil | exact nodup_bid1 _ | exact nodup_bid2 (by assumption))
        | ((first | refine fresh_tup ?_ | skip); (repeat (first |  exact FreshA.sl _ _ FreshA_bs | exact FreshA.sl _ _ FreshA_is | exact FreshA.nils | exact FreshA.nilp | exact FreshA.int _ _ | exact FreshA.bool _ | exact FreshA.str _ | exact fresh_nil | refine fresh_cons ?_ ?_ | with_reducible refine fresh_aggR ?_ | with_reducible refine fresh_agg ?_ | with_reducible exact fresh_nilA | with_reducible refine fresh_consA ?_ ?_)); done)
        ))
        | ((conv => whnf) <;> (first
        | (with_reducible refine and_same ?_)
        | (with_reducible refine and_side ?_ ?_)
        | ((with_reducible apply Br.no) ; (focus omega))
        | (with_reducible refine NOut.lit ?_)
        | (with_reducible refine lenR_sl ?_)
        ))
        )
      all_goals (conv => whnf)
      all_goals (try dsimp only)
      exact ret_same rfl
  · have e1 : a ≠ b := fun e => hl (by rw [e])
    rw [decide_eq_false e1]
    repeat' (first
      | ((with_reducible refine Side.intro ?_) <;> (first
      | (simp only [List.append_nil, List.nil_append, List.map_nil]; first | exact List.nodup_nil | exact nodup_bid1 _ | exact nodup_bid2 (by assumption))
      | ((first | refine fresh_tup ?_ | skip); (repeat (first |  exact FreshA.sl _ _ FreshA_bs | exact FreshA.sl _ _ FreshA_is | exact FreshA.nils | exact FreshA.nilp | exact FreshA.int _ _ | exact FreshA.bool _ | exact FreshA.str _ | exact fresh_nil | refine fresh_cons ?_ ?_ | with_reducible refine fresh_aggR ?_ | with_reducible refine fresh_agg ?_ | with_reducible exact fresh_nilA | with_reducible refine fresh_consA ?_ ?_)); done)
      ))
      | ((conv => whnf) <;> (first
      | (with_reducible refine and_same ?_)
      | (with_reducible refine and_side ?_ ?_)
      | ((with_reducible apply Br.yes) ; (focus omega))
      | (with_reducible refine NOut.lit ?_)
      | (with_reducible refine lenR_sl ?_)
      ))
      )
    all_goals (conv => whnf)
    all_goals (try dsimp only)
    exact ret_same rfl
end Go.Proofs.Ytjbfdhnfdehdeaa
