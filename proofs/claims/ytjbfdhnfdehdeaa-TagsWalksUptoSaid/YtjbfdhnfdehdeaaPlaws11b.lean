import Derived.Test.YtjbfdhnfdehdeaaPlaws11
namespace Go.Proofs.Ytjbfdhnfdehdeaa
open Go Go.Proofs.Ytjbfdhnfdehdeaa.V
set_option maxRecDepth 20000
attribute [local irreducible] CallS AOK AOKn ALoop Side Ref.ok
theorem cut_bs (P : List UInt8) (sp : List (List AV)) {a n : Nat} (h : a + n ≤ P.length) : List.take n (List.drop a (bs P ++ sp)) = bs ((P.drop a).take n) := by
  have hl := bs_length P
  rw [List.drop_append_of_le_length (by omega), List.take_append_of_le_length (by rw [List.length_drop]; omega), bs_drop, bs_take]
theorem looks_cut {σ : AH} {id gen off len : Nat} {cap : Option Nat} {p : List UInt8} {sp : List (List AV)} (hb : σ[id]? = some { sz := 1, els := bs p ++ sp, gen := gen, wr := true, pure := true }) (h : off + len ≤ p.length) : Looks σ (.rsl id gen off len cap) (.sl 1 (bs ((p.drop off).take len)) false) := by
  have hl := bs_length p
  refine .same ?_
  have h2 : off + len ≤ (bs p ++ sp).length := by rw [List.length_append]; omega
  simp only [derefV, derefC, hb]
  rw [if_pos ⟨trivial, trivial, h2⟩, cut_bs p sp h, untagLL_bs]
theorem zeros_all (n : Nat) : (List.replicate n (0 : UInt8)).all (· == 0) = true := by
  rw [List.all_eq_true]
  intro x hx
  rw [(List.mem_replicate.1 hx).2]; rfl
set_option maxHeartbeats 4000000 in
theorem TagsBack_ok (fr to : Int) (U : List (Int × Int × Int)) (D : List (List UInt8)) (b : List UInt8) (hs : List Int) (hU : U.length ≤ 4611686018) (hD : D.length ≤ 4611686018) (hd : ∀ d, d ∈ D → d.length ≤ 4611686018) (hb : b.length ≤ 4611686018) (hhs : hs.length ≤ 4611686018) : AOKn Try.prog F.joistlaw11_TagsBack [.int .i64 fr, .int .i64 to, .sl 3 (bk U) false, .sl 1 (dat D) false, .sl 1 (bs b) false, .sl 1 (is hs) false] fun y => y = .bool true := by
  have hln := bk_length U
  have hDn := dat_length D
  have hbn := bs_length b
  have hself : ¬ (b ≠ b) := fun h => h rfl
  refine AOKn.by_steps mixed fc_joistlaw11_TagsBack_ok (by simp [fc_joistlaw11_TagsBack]) ?_
  skip
  all_goals (conv => whnf)
  all_goals (try dsimp only)
  refine small_call fun H1 hg1 => ?_
  skip
  all_goals (conv => whnf)
  all_goals (try dsimp only)
  refine few_call D hD hd (Looks.dat _ _ _) fun H2 hg2 => ?_
  cases hf : fewB D
  · repeat' (first
      | ((with_reducible refine Side.intro ?_) <;> (first
      | (simp only [List.append_nil, List.nil_append, List.map_nil]; first | exact List.nodup_nil | exact nodup_bid1 _ | exact nodup_bid2 (by assumption))
      | ((first | refine fresh_tup ?_ | skip); (repeat (first |  exact FreshA.sl _ _ FreshA_bs | exact FreshA.sl _ _ FreshA_is | exact FreshA.nils | exact FreshA.nilp | exact FreshA.int _ _ | exact FreshA.bool _ | exact FreshA.str _ | exact fresh_nil | refine fresh_cons ?_ ?_ | with_reducible refine fresh_aggR ?_ | with_reducible refine fresh_agg ?_ | with_reducible exact fresh_nilA | with_reducible refine fresh_consA ?_ ?_)); done)
      ))
      | ((conv => whnf) <;> (first
      | (with_reducible refine and_side ?_ ?_)
      | (with_reducible refine NOut.lit ?_)
      ))
      )
    all_goals (conv => whnf)
    all_goals (try dsimp only)
    exact ret_bool rfl
  · by_cases h60 : U.length ≤ 60 ∧ b.length ≤ 32768
    · obtain ⟨h60, h15⟩ := h60
      have hf2 : D.length ≤ 60 := by
        simp only [fewB, Bool.and_eq_true, decide_eq_true_eq] at hf
        exact hf.2
      repeat' (first
        | ((conv => whnf) <;> (first
        | (with_reducible refine and_same ?_)
        | ((with_reducible apply Br.no) ; (focus omega))
        | (with_reducible refine lenR_sl ?_)
        ))
        )
      all_goals (conv => whnf)
      all_goals (try dsimp only)
      refine TWrite_call fr to U D (by omega) (by omega) hd (Looks.bk _ _ _) (Looks.dat _ _ _) fun H3 y h hg3 hy hh hyn hhn hyh => ?_
      cases hr : rT fr to U D
      · rw [show twE fr to U D = 1 from by rw [twE, hr]; rfl]
        repeat' (first
          | ((conv => whnf) <;> (first
          | (with_reducible refine and_same ?_)
          | ((with_reducible apply Br.no) ; (focus omega))
          ))
          )
        all_goals (conv => whnf)
        all_goals (try dsimp only)
        refine TRead_call fr to b hs hb hhs (.bs _ _ _) (Looks.isv _ _ _) fun H7 u d xs hg7 hu hd hsp hun hdn hxn hud hux hdx => ?_
        cases h0 : trOk fr to b hs
        · rw [(tr_no h0).1] at hu
          rw [(tr_no h0).2] at hsp
          have hu0 : Own H7 3 u (bk []) := hu
          have hbk0 : (bk []).length = 0 := rfl
          have hx0 : xs = [] := List.length_eq_zero_iff.1 hsp.len
          subst hx0
          have hxm0 : (([] : List AV).map fun x => [x]).length = 0 := rfl
          clear hu
          repeat' (first
            | ((with_reducible refine Side.intro ?_) <;> (first
            | (simp only [List.append_nil, List.nil_append, List.map_nil]; first | exact List.nodup_nil | exact nodup_bid1 _ | exact nodup_bid2 (by assumption))
            | ((first | refine fresh_tup ?_ | skip); (repeat (first |  exact FreshA.sl _ _ FreshA_bs | exact FreshA.sl _ _ FreshA_is | exact FreshA.nils | exact FreshA.nilp | exact FreshA.int _ _ | exact FreshA.bool _ | exact FreshA.str _ | exact fresh_nil | refine fresh_cons ?_ ?_ | with_reducible refine fresh_aggR ?_ | with_reducible refine fresh_agg ?_ | with_reducible exact fresh_nilA | with_reducible refine fresh_consA ?_ ?_)); done)
            ))
            | ((conv => whnf) <;> (first
            | (with_reducible refine and_same ?_)
            | (with_reducible refine and_side ?_ ?_)
            | (with_reducible refine Br.yes rfl ?_)
            | ((with_reducible apply lenR_own) ; (focus assumption))
            | ((with_reducible apply NestR.lenW) ; (focus assumption))
            | (with_reducible refine NOut.lit ?_)
            ))
            )
          all_goals (conv => whnf)
          all_goals (try dsimp only)
          exact ret_bool rfl
        · obtain ⟨q1, q2, q3, q4, q5⟩ := trOk_iff.1 h0
          obtain ⟨l1, l2, l3⟩ := tr_len (fr := fr) (to := to) (b := b) (hs := hs)
          have hu2 := hu
          have hsp2 := hsp
          rw [(tr_yes h0).1] at l1 hu2
          rw [(tr_yes h0).2] at l2 l3 hsp2
          skip
          all_goals (conv => whnf)
          all_goals (try dsimp only)
          refine TWrite_call fr to (trW fr to b).1 (trW fr to b).2.1 (by omega) (by omega) (fun e he => by have := l3 e he; omega) (Looks.ownbk hu2) (looks_xs hd hsp2) fun H8 y8 h8 hg8 hy8 hh8 hyn8 hhn8 hyh8 => ?_
          rw [q4] at hy8
          rw [q5] at hh8
          rw [show twE fr to (trW fr to b).1 (trW fr to b).2.1 = 0 from by rw [twE, q3]; rfl]
          repeat' (first
            | ((conv => whnf) <;> (first
            | (with_reducible refine and_same ?_)
            | (with_reducible refine Br.yes rfl ?_)
            | ((with_reducible apply rowsR_own) ; (focus assumption))
            | (with_reducible refine rowsR_sl ?_)
            | ((with_reducible apply bytesR_intro) ; (focus (first | rfl | (simp only [bs_take, bs_drop, bs_append]; rfl))))
            ))
            )
          all_goals (conv => whnf)
          all_goals (try dsimp only)
          refine Same_call hs hs (by omega) (by omega) (Looks.ownis hh8) (Looks.isv _ _ _) fun H9 hg9 => ?_
          rw [decide_eq_true rfl]
          repeat' (first
            | ((with_reducible refine Side.intro ?_) <;> (first
            | (simp only [List.append_nil, List.nil_append, List.map_nil]; first | exact List.nodup_nil | exact nodup_bid1 _ | exact nodup_bid2 (by assumption))
            | ((first | refine fresh_tup ?_ | skip); (repeat (first |  exact FreshA.sl _ _ FreshA_bs | exact FreshA.sl _ _ FreshA_is | exact FreshA.nils | exact FreshA.nilp | exact FreshA.int _ _ | exact FreshA.bool _ | exact FreshA.str _ | exact fresh_nil | refine fresh_cons ?_ ?_ | with_reducible refine fresh_aggR ?_ | with_reducible refine fresh_agg ?_ | with_reducible exact fresh_nilA | with_reducible refine fresh_consA ?_ ?_)); done)
            ))
            | ((conv => whnf) <;> (first
            | (with_reducible refine and_side ?_ ?_)
            | (with_reducible refine NOut.lit ?_)
            ))
            )
          all_goals (conv => whnf)
          all_goals (try dsimp only)
          exact ret_bool rfl
      · rw [show twE fr to U D = 0 from by rw [twE, hr]; rfl]
        have T := rT_tg hr
        obtain ⟨r1, r2, r3⟩ := Tg.read hr
        have hwl : (twR fr to U D).length ≤ 4611686018 := by
          have := T.imgl
          have t1 := T.f0
          have t2 := T.t0
          rw [twR, hr, if_pos rfl, this]; unfold off; omega
        have hhl : (twH fr to U D).length ≤ 4611686018 := by rw [twH, hr, if_pos rfl]; simp [hdsL]
        have hpl := padL_length T.len
        have htl := T.len
        repeat' (first
          | ((conv => whnf) <;> (first
          | (with_reducible refine and_same ?_)
          | (with_reducible refine Br.yes rfl ?_)
          ))
          )
        all_goals (conv => whnf)
        all_goals (try dsimp only)
        refine TRead_call fr to (twR fr to U D) (twH fr to U D) hwl hhl (Looks.ownbs hy) (Looks.ownis hh) fun H4 u d xs hg4 hu hd4 hsp hun hdn hxn hud hux hdx => ?_
        rw [r1]
        rw [r2] at hu
        rw [r3] at hsp
        have hxl : (xs.map fun x => [x]).length = D.length := by rw [List.length_map, hsp.len, hpl, htl]
        skip
        all_goals (conv => whnf)
        all_goals (try dsimp only)
        refine BSame_call U U (by omega) (by omega) (Looks.ownbk hu) (Looks.bk _ _ _) fun H5 hg5 => ?_
        rw [decide_eq_true rfl]
        replace hd4 := NestR.keepN hg5 hd4
        replace hsp := hsp.keepN hg5
        clear hu
        repeat' (first
          | ((conv => whnf) <;> (first
          | (with_reducible refine and_same ?_)
          | ((with_reducible apply Br.no) ; (focus omega))
          | ((with_reducible apply NestR.lenW) ; (focus assumption))
          | (with_reducible refine lenR_sl ?_)
          ))
          )
        all_goals (conv => whnf)
        all_goals (try dsimp only)
        refine loop_at (α := Nat × AH) (fun a => [(21, .int .i64 a.1)]) (fun a => a.2) (fun a => a.1 ≤ D.length ∧ NestS a.2 d xs ∧ Sep a.2 xs (padL U D)) (fun a => D.length - a.1) (0, H5) ⟨Nat.zero_le _, hd4, hsp⟩ rfl rfl ?_
        clear hd4 hsp
        rintro ⟨i, σ⟩ ⟨hi, hd4, hsp⟩
        dsimp only at hi hd4 hsp ⊢
        by_cases hlt : i < D.length
        · obtain ⟨e, he, he'⟩ := getN (l := D) (k := i) (by omega)
          obtain ⟨v, hv, hv'⟩ := getN (l := U) (k := i) (by omega)
          have hem := hd e (List.mem_of_getElem? he')
          have hel := bs_length e
          have hub := T.u hv' he'
          have hxl2 : xs.length = D.length := by rw [← hxl, List.length_map]
          obtain ⟨x, hx, hx'⟩ := getN (l := xs) (k := i) (by omega)
          have hpg := padL_get hv' he'
          have hxo := hsp.own i x _ hx' hpg
          have hpdl : (padD v e).length = 8 * (v.2.1 - 2).toNat := by simp only [padD, List.length_append, List.length_replicate]; omega
          have hpbl := bs_length (padD v e)
          have hz : (padD v e).drop e.length = List.replicate (8 * (v.2.1 - 2).toNat - e.length) 0 := by simp [padD]
          have htk : (padD v e).take e.length = e := by simp [padD]
          obtain ⟨id, gen, sp', rfl, hxb⟩ := hxo.ne (fun q => by rw [q] at hpbl; simp at hpbl; omega)
          clear hxo
          have hcmp : ¬ (e ≠ e) := fun h => h rfl
          have t1 := T.f0
          have t2 := T.t0
          have e1 : List.take ((((bs e).length : Nat) : Int).toNat - Int.toNat 0) (List.drop (0 + Int.toNat 0) (bs (padD v e) ++ sp')) = bs e := by
            rw [Int.toNat_natCast, hel, cut_bs _ _ (by show 0 + e.length - 0 ≤ _; omega)]
            simp [htk]
          repeat' (first
            | ((with_reducible refine Side.intro ?_) <;> (first
            | omega
            | (simp only [bs_length, List.length_append, List.length_cons, List.length_nil, List.length_take, List.length_drop, List.length_set, List.length_replicate]; omega)
            ))
            | ((conv => whnf) <;> (first
            | (with_reducible refine and_same ?_)
            | (with_reducible refine and_side ?_ ?_)
            | ((with_reducible apply Br.yes) ; (focus omega))
            | ((with_reducible apply Br.no) ; (focus omega))
            | ((with_reducible apply blkAt_intro) ; (focus (first
            | ((repeat (first
            | assumption
            )); done)
            )) ; (focus (first | rfl | assumption | omega)) ; (try dsimp only))
            | ((with_reducible apply nthR_bk) ; (focus assumption))
            | ((with_reducible apply nthR_dat) ; (focus assumption))
            | (with_reducible refine ia_sl ?_ ?_)
            | ((with_reducible apply NestR.ia) ; (focus assumption))
            | ((with_reducible apply NestR.lenW) ; (focus assumption))
            | ((with_reducible apply nest_nth) ; (focus assumption))
            | (with_reducible refine SliceW.of ?_)
            | (with_reducible refine lenR_sl ?_)
            | (with_reducible refine lenR_rsl ?_)
            | (with_reducible refine rowsR_rsl ?_)
            | (with_reducible intro _)
            ))
            )
          all_goals (conv => whnf)
          all_goals (try dsimp only)
          rw [e1]
          repeat' (first
            | ((with_reducible refine Side.intro ?_) <;> (first
            | omega
            ))
            | ((conv => whnf) <;> (first
            | (with_reducible refine and_same ?_)
            | (with_reducible refine and_side ?_ ?_)
            | ((with_reducible apply Br.no) ; (focus omega))
            | ((with_reducible apply blkAt_intro) ; (focus (first
            | ((repeat (first
            | assumption
            )); done)
            )) ; (focus (first | rfl | assumption | omega)) ; (try dsimp only))
            | ((with_reducible apply nthR_dat) ; (focus assumption))
            | (with_reducible refine ia_sl ?_ ?_)
            | ((with_reducible apply NestR.ia) ; (focus assumption))
            | ((with_reducible apply nest_nth) ; (focus assumption))
            | (with_reducible refine SliceW.of ?_)
            | (with_reducible refine rowsR_sl ?_)
            | ((with_reducible apply bytesR_intro) ; (focus (first | rfl | (simp only [bs_take, bs_drop, bs_append]; rfl))))
            | (with_reducible intro _)
            ))
            )
          all_goals (conv => whnf)
          all_goals (try dsimp only)
          refine call_one (words_Zero_ok _ (by simp only [List.length_take, List.length_drop]; omega)) (.cons (looks_cut hxb (by omega)) .nil) rfl fun H6 hg6 => ?_
          have e2 : ∀ o m : Nat, o = e.length → (List.take m (List.drop o (padD v e))).all (· == 0) = true := fun o m ho => by
            rw [ho, hz, List.take_replicate]
            exact zeros_all _
          rw [e2 _ _ (by omega)]
          repeat' (first
            | ((conv => whnf) <;> (first
            | (with_reducible refine and_same ?_)
            | ((with_reducible apply Br.yes) ; (focus omega))
            ))
            )
          all_goals (conv => whnf)
          all_goals (try dsimp only)
          refine ⟨(i + 1, H6), rfl, rfl, ⟨by dsimp only; omega, NestR.keepN hg6 hd4, hsp.keepN hg6⟩, by dsimp only; omega⟩
        · have hil : i = D.length := by omega
          subst hil
          repeat' (first
            | ((conv => whnf) <;> (first
            | (with_reducible refine and_same ?_)
            | ((with_reducible apply Br.no) ; (focus omega))
            | ((with_reducible apply NestR.lenW) ; (focus assumption))
            ))
            )
          all_goals (conv => whnf)
          all_goals (try dsimp only)
          refine TRead_call fr to b hs hb hhs (.bs _ _ _) (Looks.isv _ _ _) fun H7 u d xs hg7 hu hd hsp hun hdn hxn hud hux hdx => ?_
          cases h0 : trOk fr to b hs
          · rw [(tr_no h0).1] at hu
            rw [(tr_no h0).2] at hsp
            have hu0 : Own H7 3 u (bk []) := hu
            have hbk0 : (bk []).length = 0 := rfl
            have hx0 : xs = [] := List.length_eq_zero_iff.1 hsp.len
            subst hx0
            have hxm0 : (([] : List AV).map fun x => [x]).length = 0 := rfl
            clear hu
            repeat' (first
              | ((with_reducible refine Side.intro ?_) <;> (first
              | (simp only [List.append_nil, List.nil_append, List.map_nil]; first | exact List.nodup_nil | exact nodup_bid1 _ | exact nodup_bid2 (by assumption))
              | ((first | refine fresh_tup ?_ | skip); (repeat (first |  exact FreshA.sl _ _ FreshA_bs | exact FreshA.sl _ _ FreshA_is | exact FreshA.nils | exact FreshA.nilp | exact FreshA.int _ _ | exact FreshA.bool _ | exact FreshA.str _ | exact fresh_nil | refine fresh_cons ?_ ?_ | with_reducible refine fresh_aggR ?_ | with_reducible refine fresh_agg ?_ | with_reducible exact fresh_nilA | with_reducible refine fresh_consA ?_ ?_)); done)
              ))
              | ((conv => whnf) <;> (first
              | (with_reducible refine and_same ?_)
              | (with_reducible refine and_side ?_ ?_)
              | (with_reducible refine Br.yes rfl ?_)
              | ((with_reducible apply lenR_own) ; (focus assumption))
              | ((with_reducible apply NestR.lenW) ; (focus assumption))
              | (with_reducible refine NOut.lit ?_)
              ))
              )
            all_goals (conv => whnf)
            all_goals (try dsimp only)
            exact ret_bool rfl
          · obtain ⟨q1, q2, q3, q4, q5⟩ := trOk_iff.1 h0
            obtain ⟨l1, l2, l3⟩ := tr_len (fr := fr) (to := to) (b := b) (hs := hs)
            have hu2 := hu
            have hsp2 := hsp
            rw [(tr_yes h0).1] at l1 hu2
            rw [(tr_yes h0).2] at l2 l3 hsp2
            skip
            all_goals (conv => whnf)
            all_goals (try dsimp only)
            refine TWrite_call fr to (trW fr to b).1 (trW fr to b).2.1 (by omega) (by omega) (fun e he => by have := l3 e he; omega) (Looks.ownbk hu2) (looks_xs hd hsp2) fun H8 y8 h8 hg8 hy8 hh8 hyn8 hhn8 hyh8 => ?_
            rw [q4] at hy8
            rw [q5] at hh8
            rw [show twE fr to (trW fr to b).1 (trW fr to b).2.1 = 0 from by rw [twE, q3]; rfl]
            repeat' (first
              | ((conv => whnf) <;> (first
              | (with_reducible refine and_same ?_)
              | (with_reducible refine Br.yes rfl ?_)
              | ((with_reducible apply rowsR_own) ; (focus assumption))
              | (with_reducible refine rowsR_sl ?_)
              | ((with_reducible apply bytesR_intro) ; (focus (first | rfl | (simp only [bs_take, bs_drop, bs_append]; rfl))))
              ))
              )
            all_goals (conv => whnf)
            all_goals (try dsimp only)
            refine Same_call hs hs (by omega) (by omega) (Looks.ownis hh8) (Looks.isv _ _ _) fun H9 hg9 => ?_
            rw [decide_eq_true rfl]
            repeat' (first
              | ((with_reducible refine Side.intro ?_) <;> (first
              | (simp only [List.append_nil, List.nil_append, List.map_nil]; first | exact List.nodup_nil | exact nodup_bid1 _ | exact nodup_bid2 (by assumption))
              | ((first | refine fresh_tup ?_ | skip); (repeat (first |  exact FreshA.sl _ _ FreshA_bs | exact FreshA.sl _ _ FreshA_is | exact FreshA.nils | exact FreshA.nilp | exact FreshA.int _ _ | exact FreshA.bool _ | exact FreshA.str _ | exact fresh_nil | refine fresh_cons ?_ ?_ | with_reducible refine fresh_aggR ?_ | with_reducible refine fresh_agg ?_ | with_reducible exact fresh_nilA | with_reducible refine fresh_consA ?_ ?_)); done)
              ))
              | ((conv => whnf) <;> (first
              | (with_reducible refine and_side ?_ ?_)
              | (with_reducible refine NOut.lit ?_)
              ))
              )
            all_goals (conv => whnf)
            all_goals (try dsimp only)
            exact ret_bool rfl
    · repeat' (first
        | ((with_reducible refine Side.intro ?_) <;> (first
        | (simp only [List.append_nil, List.nil_append, List.map_nil]; first | exact List.nodup_nil | exact nodup_bid1 _ | exact nodup_bid2 (by assumption))
        | ((first | refine fresh_tup ?_ | skip); (repeat (first |  exact FreshA.sl _ _ FreshA_bs | exact FreshA.sl _ _ FreshA_is | exact FreshA.nils | exact FreshA.nilp | exact FreshA.int _ _ | exact FreshA.bool _ | exact FreshA.str _ | exact fresh_nil | refine fresh_cons ?_ ?_ | with_reducible refine fresh_aggR ?_ | with_reducible refine fresh_agg ?_ | with_reducible exact fresh_nilA | with_reducible refine fresh_consA ?_ ?_)); done)
        ))
        | ((conv => whnf) <;> (first
        | (with_reducible refine and_same ?_)
        | (with_reducible refine and_side ?_ ?_)
        | ((with_reducible apply Br.yes) ; (focus omega))
        | (with_reducible refine Br.mk (fun _ => ?_) (fun _ => ?_))
        | (with_reducible refine NOut.lit ?_)
        | (with_reducible refine lenR_sl ?_)
        ))
        )
      all_goals (conv => whnf)
      all_goals (try dsimp only)
      all_goals first
        | omega
        | exact ret_bool rfl
end Go.Proofs.Ytjbfdhnfdehdeaa
