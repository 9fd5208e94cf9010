import Derived.Test.YthakanioekmhbaaPlaws03c
namespace Go.Proofs.Ythakanioekmhbaa
open Go Go.Proofs.Ythakanioekmhbaa.V
set_option linter.unusedSimpArgs false
set_option linter.unusedVariables false
set_option maxRecDepth 20000
attribute [local irreducible] CallS AOK AOKn ALoop Side Ref.ok
theorem rows_bs {L : List UInt8} {sp : List (List AV)} {o n : Nat} (h : o + n ≤ L.length) : ((bs L ++ sp).drop o).take n = bs ((L.drop o).take n) := by
  rw [List.drop_append_of_le_length (by rw [bs_length]; omega), List.take_append_of_le_length (by rw [List.length_drop, bs_length]; omega), bs_drop, bs_take]
theorem lasts_sure {d : Dv} (h : DvR d) {at' : Int} {b : List UInt8} (h1 : (storeD d at' b).1 = 0) (h2 : (flushD (storeD d at' b).2 at' b.length).1 = 0) (h3 : (fenceD (flushD (storeD d at' b).2 at' b.length).2).1 = 0) :
    (0 ≤ at' ∧ at' + b.length ≤ d.L.length) ∧ ∀ p : Nat, at' ≤ p → p < at' + b.length → (fenceD (flushD (storeD d at' b).2 at' b.length).2).2.S[p]? = b[p - at'.toNat]? ∧ (fenceD (flushD (storeD d at' b).2 at' b.length).2).2.L[p]? = b[p - at'.toNat]? := by
  have r1 := h.store at' b
  have r2 := r1.flush at' b.length
  have hlen := h.ok.len
  have e1 : ∃ d0 : Dv, (storeD d at' b).2 = ({ d0 with S := storeL d.S at'.toNat b } : Dv).setM (stE (ovC at' b.length) (at' / 64) (d0.es, d0.clock)) ∧ askD d at' b.length = 0 := by
    have hk : (beginD d at' b.length).1 = 0 → askD d at' b.length = 0 := beginD_ok
    obtain ⟨s1, s2, s3, s4⟩ := beginD_same d at' b.length
    unfold storeD at h1 ⊢
    generalize beginD d at' b.length = q at *
    obtain ⟨e, d1⟩ := q
    by_cases he : e = 0
    · refine ⟨d1, ?_, hk he⟩
      dsimp only at s2 ⊢
      rw [if_neg (by simp [he]), s2]
    · dsimp only at h1
      rw [if_pos he] at h1
      exact absurd h1 he
  obtain ⟨d0, e1, k0⟩ := e1
  obtain ⟨_, k2, k3, k4, k5⟩ := askD_ok k0
  have hfit : at'.toNat + b.length ≤ d.S.length := by omega
  have e2 : ∃ d5 : Dv, (flushD (storeD d at' b).2 at' b.length).2 = d5.setM (flE (ovC at' b.length) (at' / 64) (d5.es, d5.clock)) ∧ d5.S = (storeD d at' b).2.S ∧ d5.es = (storeD d at' b).2.es := by
    generalize (storeD d at' b).2 = dd at *
    obtain ⟨s1, s2, s3, s4⟩ := beginD_same dd at' b.length
    unfold flushD at h2 ⊢
    generalize beginD dd at' b.length = q at *
    obtain ⟨e, d1⟩ := q
    by_cases he : e = 0
    · refine ⟨d1, ?_, s2, s3⟩
      dsimp only
      rw [if_neg (by simp [he])]
    · dsimp only at h2
      rw [if_pos he] at h2
      exact absurd h2 he
  obtain ⟨d5, e2, f2, f3⟩ := e2
  have e3 : ∃ d7 : Dv, (fenceD (flushD (storeD d at' b).2 at' b.length).2).2 = (srt (d7.es.map ME.key)).foldl fenceS d7 ∧ d7.S = (flushD (storeD d at' b).2 at' b.length).2.S ∧ d7.es = (flushD (storeD d at' b).2 at' b.length).2.es ∧ DvR d7 := by
    generalize (flushD (storeD d at' b).2 at' b.length).2 = dd at *
    have hd := r2.begin 0 0
    obtain ⟨s1, s2, s3, s4⟩ := beginD_same dd 0 0
    unfold fenceD at h3 ⊢
    generalize beginD dd 0 0 = q at *
    obtain ⟨e, d1⟩ := q
    by_cases he : e = 0
    · refine ⟨d1, ?_, s2, s3, hd⟩
      dsimp only
      rw [if_neg (by simp [he])]
    · dsimp only at h3
      rw [if_pos he] at h3
      exact absurd h3 he
  obtain ⟨d7, e3, g2, g3, g4⟩ := e3
  refine ⟨⟨k2, by omega⟩, fun p p1 p2 => ?_⟩
  obtain ⟨w1, w2, w3⟩ := fence_all g4.ok
  have hS : d7.S[p]? = b[p - at'.toNat]? := by
    rw [g2, e2]
    simp only [Dv.setM]
    rw [f2, e1]
    simp only [Dv.setM]
    rw [store_at hfit, if_pos ⟨by omega, by omega⟩]
  have hf : flushed d7.es ((p / 64 : Nat) : Int) = true := by
    have hr : at' / 64 ≤ ((p / 64 : Nat) : Int) ∧ ((p / 64 : Nat) : Int) < at' / 64 + ovC at' b.length := by
      rw [ov_mem k2 k4]
      omega
    have hm : mget d7.es ((p / 64 : Nat) : Int) = some (.bool true) := by
      rw [g3, e2]
      simp only [Dv.setM]
      have hsm : (mget d5.es ((p / 64 : Nat) : Int)).isSome = true := by
        rw [f3, e1]
        simp only [Dv.setM]
        rw [mget_stE, if_pos hr]
        rfl
      rw [mget_flE, if_pos ⟨hr, hsm⟩]
    simp only [flushed, hm]
  rw [e3]
  refine ⟨by rw [w3.S]; exact hS, ?_⟩
  rw [w2, if_pos hf]
  exact hS
theorem line_kept {d : Dv} (h : DvR d) (K : List Bool) (i : Nat) : (((crashD K d).L.drop (64 * i)).take 64 = (d.L.drop (64 * i)).take 64) ∨ (((crashD K d).L.drop (64 * i)).take 64 = (d.S.drop (64 * i)).take 64) := by
  obtain ⟨h1, h2⟩ := crash_all h.ok K
  have hp : ∀ j, j < 64 → ((64 * i + j) / 64 : Nat) = i := fun j hj => by omega
  by_cases hk : keptL d K (i : Int)
  · right
    apply List.ext_getElem?
    intro j
    by_cases hj : j < 64
    · rw [List.getElem?_take_of_lt hj, List.getElem?_take_of_lt hj, List.getElem?_drop, List.getElem?_drop]
      exact (h2 _).1 (by rw [hp j hj]; exact hk)
    · rw [List.getElem?_take_eq_none (by omega), List.getElem?_take_eq_none (by omega)]
  · left
    apply List.ext_getElem?
    intro j
    by_cases hj : j < 64
    · rw [List.getElem?_take_of_lt hj, List.getElem?_take_of_lt hj, List.getElem?_drop, List.getElem?_drop]
      exact (h2 _).2 (by rw [hp j hj]; exact hk)
    · rw [List.getElem?_take_eq_none (by omega), List.getElem?_take_eq_none (by omega)]
theorem sure_kept {d : Dv} (h : DvR d) (K : List Bool) {at' : Int} {b : List UInt8} (ha : 0 ≤ at') (hb : at' + b.length ≤ d.L.length) (hs : ∀ p : Nat, at' ≤ p → p < at' + b.length → d.S[p]? = b[p - at'.toNat]? ∧ d.L[p]? = b[p - at'.toNat]?) : ((crashD K d).L.drop at'.toNat).take b.length = b := by
  obtain ⟨h1, h2⟩ := crash_all h.ok K
  apply List.ext_getElem?
  intro j
  by_cases hj : j < b.length
  · rw [List.getElem?_take_of_lt hj, List.getElem?_drop]
    obtain ⟨q1, q2⟩ := hs (at'.toNat + j) (by omega) (by omega)
    rw [Nat.add_sub_cancel_left] at q1 q2
    by_cases hk : keptL d K (((at'.toNat + j) / 64 : Nat) : Int)
    · exact ((h2 _).1 hk).trans q1
    · exact ((h2 _).2 hk).trans q2
  · rw [List.getElem?_take_eq_none (by omega), List.getElem?_eq_none (by omega)]
set_option maxHeartbeats 4000000 in
theorem PmemLasts_ok (s : List UInt8) (ac : List ActV) (at' : Int) (b : List UInt8) (K : List Bool) (hs : s.length ≤ 4611686018) (hb : b.length ≤ 4611686018) (hK : K.length ≤ 1048576) (hac : ac.length ≤ 4611686018 ∧ ∀ c, c ∈ ac → c.B.length ≤ 1048576 ∧ c.K.length ≤ 1048576 ∧ c.N ≤ 9223372036854775807) : AOKn Try.prog F.joistlaw03_PmemLasts [.sl 1 (bs s) false, .sl 5 (acR ac) false, .int .i64 at', .sl 1 (bs b) false, .sl 1 (bls K) false] fun y => y = .bool true := by
  obtain ⟨ha1, ha2⟩ := hac
  have hns := bs_length s
  have hnb := bs_length b
  have hna := acR_length ac
  have ntt : ¬ (true ≠ true) := by simp
  have nff : ¬ (false ≠ false) := by simp
  refine AOKn.by_steps mixed fc_joistlaw03_PmemLasts_ok (by simp [fc_joistlaw03_PmemLasts]) ?_
  skip
  all_goals (conv => whnf)
  all_goals (try dsimp only)
  refine call_one small_ok .nil rfl fun σ1 hg1 => ?_
  by_cases h1 : 2048 < (s.length : Int)
  · repeat' (first
      | ((with_reducible refine Side.intro ?_) <;> (first
      | (simp only [List.append_nil, List.nil_append, List.map_nil]; first | exact List.nodup_nil | exact nodup_bid1 _ | exact nodup_bid2 (by assumption))
      | ((first | refine fresh_tup ?_ | skip); (repeat (first |  exact FreshA.sl _ _ FreshA_bs | exact FreshA.sl _ _ FreshA_is | exact FreshA.nils | exact FreshA.nilp | exact FreshA.int _ _ | exact FreshA.bool _ | exact FreshA.str _ | exact fresh_nil | refine fresh_cons ?_ ?_ | with_reducible refine fresh_aggR ?_ | with_reducible refine fresh_agg ?_ | with_reducible exact fresh_nilA | with_reducible refine fresh_consA ?_ ?_)); done)
      ))
      | ((conv => whnf) <;> (first
      | (with_reducible refine and_same ?_)
      | (with_reducible refine and_side ?_ ?_)
      | ((with_reducible apply Br.yes) ; (focus omega))
      | (with_reducible refine NOut.lit ?_)
      | (with_reducible refine lenR_sl ?_)
      ))
      )
    all_goals (conv => whnf)
    all_goals (try dsimp only)
    exact ret_bool rfl
  by_cases h2 : 2048 < (b.length : Int)
  · repeat' (first
      | ((with_reducible refine Side.intro ?_) <;> (first
      | (simp only [List.append_nil, List.nil_append, List.map_nil]; first | exact List.nodup_nil | exact nodup_bid1 _ | exact nodup_bid2 (by assumption))
      | ((first | refine fresh_tup ?_ | skip); (repeat (first |  exact FreshA.sl _ _ FreshA_bs | exact FreshA.sl _ _ FreshA_is | exact FreshA.nils | exact FreshA.nilp | exact FreshA.int _ _ | exact FreshA.bool _ | exact FreshA.str _ | exact fresh_nil | refine fresh_cons ?_ ?_ | with_reducible refine fresh_aggR ?_ | with_reducible refine fresh_agg ?_ | with_reducible exact fresh_nilA | with_reducible refine fresh_consA ?_ ?_)); done)
      ))
      | ((conv => whnf) <;> (first
      | (with_reducible refine and_same ?_)
      | (with_reducible refine and_side ?_ ?_)
      | ((with_reducible apply Br.yes) ; (focus omega))
      | ((with_reducible apply Br.no) ; (focus omega))
      | (with_reducible refine NOut.lit ?_)
      | (with_reducible refine lenR_sl ?_)
      ))
      )
    all_goals (conv => whnf)
    all_goals (try dsimp only)
    exact ret_bool rfl
  repeat' (first
    | ((conv => whnf) <;> (first
    | (with_reducible refine and_same ?_)
    | ((with_reducible apply Br.no) ; (focus omega))
    | (with_reducible refine lenR_sl ?_)
    ))
    )
  all_goals (conv => whnf)
  all_goals (try dsimp only)
  refine New_ok (s := s) (.sl false rfl) hs _ ?_ ?_
  · intro hG a σ2 hg2 hD2 hn2
    have hR := DvR.new hG
    have box2 := hD2.box
    dsimp only at box2
    repeat' (first
      | ((conv => whnf) <;> (first
      | (with_reducible refine and_same ?_)
      | ((with_reducible apply Br.no) ; (focus omega))
      | ((with_reducible apply blkAt_step) ; (focus (first
      | ((repeat (first
      | assumption
      )); done)
      )) ; (focus (first | rfl | assumption | omega)) ; (focus (first | rfl | assumption)) ; (try dsimp only))
      ))
      )
    all_goals (conv => whnf)
    all_goals (try dsimp only)
    refine loop_at (α := Nat × Dv × AH) (fun q => [(14, .int .i64 q.1)]) (fun q => q.2.2) (fun q => q.1 ≤ ac.length ∧ DevH q.2.2 a q.2.1 ∧ DvR q.2.1 ∧ q.2.1.L.length = s.length) (fun q => ac.length - q.1) (0, ⟨s, s, [], 0, 0, false⟩, σ2) ⟨Nat.zero_le _, hD2, hR, rfl⟩ rfl rfl ?_
    rintro ⟨i, d, τ⟩ ⟨hi, hD, hRd, hLs⟩
    dsimp only at hi hD hRd hLs ⊢
    have hle := hRd.ok.le
    have hln := hRd.ok.len
    by_cases hlt : i < ac.length ∧ i < 40
    · obtain ⟨c, hc, hc'⟩ := getN hlt.1
      obtain ⟨hcB, hcK, hcN⟩ := ha2 c (List.mem_of_getElem? hc')
      obtain ⟨hlt1, hlt2⟩ := hlt
      have hnB := bs_length c.B
      by_cases hsk : 4096 < (c.B.length : Int)
      · repeat' (first
          | ((with_reducible refine Side.intro ?_) <;> (first
          | omega
          | (simp only [List.append_nil, List.nil_append, List.map_nil]; first | exact List.nodup_nil | exact nodup_bid1 _ | exact nodup_bid2 (by assumption))
          | ((first | refine fresh_tup ?_ | skip); (repeat (first |  exact FreshA.sl _ _ FreshA_bs | exact FreshA.sl _ _ FreshA_is | exact FreshA.nils | exact FreshA.nilp | exact FreshA.int _ _ | exact FreshA.bool _ | exact FreshA.str _ | exact fresh_nil | refine fresh_cons ?_ ?_ | with_reducible refine fresh_aggR ?_ | with_reducible refine fresh_agg ?_ | with_reducible exact fresh_nilA | with_reducible refine fresh_consA ?_ ?_)); done)
          ))
          | ((conv => whnf) <;> (first
          | (with_reducible refine and_same ?_)
          | (with_reducible refine and_side ?_ ?_)
          | ((with_reducible apply Br.yes) ; (focus omega))
          | ((with_reducible apply nthR_act) ; (focus assumption))
          | (with_reducible refine ia_sl ?_ ?_)
          | (with_reducible refine NOut.lit ?_)
          | (with_reducible refine lenR_sl ?_)
          ))
          )
        all_goals (conv => whnf)
        all_goals (try dsimp only)
        exact ret_bool rfl
      · repeat' (first
          | ((with_reducible refine Side.intro ?_) <;> (first
          | omega
          | exact Nat.le_of_ble_eq_true rfl
          ))
          | ((conv => whnf) <;> (first
          | (with_reducible refine and_same ?_)
          | (with_reducible refine and_side ?_ ?_)
          | ((with_reducible apply Br.yes) ; (focus omega))
          | ((with_reducible apply Br.no) ; (focus omega))
          | ((with_reducible apply nthR_act) ; (focus assumption))
          | (with_reducible refine ia_sl ?_ ?_)
          | (with_reducible refine lenR_sl ?_)
          ))
          )
        all_goals (conv => whnf)
        all_goals (try dsimp only)
        refine do_ok hD hRd c hcB hcK _ fun σ4 hD4 hg4 => ?_
        repeat' (first
          | ((conv => whnf) <;> (first
          | (with_reducible refine and_same ?_)
          | ((with_reducible apply Br.yes) ; (focus omega))
          ))
          )
        all_goals (conv => whnf)
        all_goals (try dsimp only)
        exact ⟨(i + 1, doD d c, σ4), rfl, rfl, ⟨hlt1, hD4, hRd.do c hcN, (do_len hRd c).trans hLs⟩, by dsimp only; omega⟩
    · have hlt' : ac.length ≤ i ∨ 40 ≤ i := by omega
      have hsure := fun q1 q2 q3 => lasts_sure hRd (at' := at') (b := b) q1 q2 q3
      have r1 := hRd.store at' b
      have r2 := r1.flush at' b.length
      have r3 := r2.fence
      have l1 : (storeD d at' b).2.L.length = s.length := by rw [store_len]; exact hLs
      have l2 : (flushD (storeD d at' b).2 at' b.length).2.L.length = s.length := by rw [flush_len]; exact l1
      have l3 : (fenceD (flushD (storeD d at' b).2 at' b.length).2).2.L.length = s.length := (fence_len r2).trans l2
      repeat' (first
        | ((conv => whnf) <;> (first
        | (with_reducible refine and_same ?_)
        | ((with_reducible apply Br.no) ; (focus omega))
        | (with_reducible refine Br.mk (fun _ => ?_) (fun _ => ?_))
        | (with_reducible refine lenR_sl ?_)
        ))
        )
      all_goals (conv => whnf)
      all_goals (try dsimp only)
      all_goals
        refine Store_ok hD (by omega) hRd.ok.arm at' (b := b) (.sl false rfl) (fun _ _ q => by cases q) (by omega) _ fun σ4 hD4 hg4 => ?_
        by_cases e1 : (storeD d at' b).1 = 0
        · rw [e1]
          repeat' (first
            | ((conv => whnf) <;> (first
            | (with_reducible refine and_same ?_)
            | (with_reducible refine Br.yes rfl ?_)
            | (with_reducible refine lenR_sl ?_)
            ))
            )
          all_goals (conv => whnf)
          all_goals (try dsimp only)
          rw [hnb]
          refine Flush_ok hD4 (by have := r1.ok.len; omega) r1.ok.arm at' b.length _ fun σ5 hD5 hg5 => ?_
          by_cases e2 : (flushD (storeD d at' b).2 at' b.length).1 = 0
          · rw [e2]
            repeat' (first
              | ((conv => whnf) <;> (first
              | (with_reducible refine and_same ?_)
              | (with_reducible refine Br.yes rfl ?_)
              ))
              )
            all_goals (conv => whnf)
            all_goals (try dsimp only)
            refine Fence_ok hD5 r2.ok _ fun σ6 hD6 hg6 => ?_
            by_cases e3 : (fenceD (flushD (storeD d at' b).2 at' b.length).2).1 = 0
            · rw [e3]
              have hsu := hsure e1 e2 e3
              rw [← hLs] at l3
              clear hsure
              generalize (fenceD (flushD (storeD d at' b).2 at' b.length).2).2 = f at *
              have hfl := r3.ok.le
              have hfn := r3.ok.len
              have hsp := hG.1
              repeat' (first
                | ((conv => whnf) <;> (first
                | (with_reducible refine and_same ?_)
                | (with_reducible refine Br.yes rfl ?_)
                ))
                )
              all_goals (conv => whnf)
              all_goals (try dsimp only)
              refine Image_ok hD6 (by omega) _ fun yw τw hgw how hnw => ?_
              have hDw := hD6.keepN hgw
              skip
              all_goals (conv => whnf)
              all_goals (try dsimp only)
              refine View_ok hDw (by omega) _ fun ys τs hgs hos hns' => ?_
              have hDs := hDw.keepN hgs
              replace how := how.keepN hgs
              have hyw : ∀ id, a.has id → yw.bid ≠ some id := fun id q e => by
                have := hD6.lt id q
                have := hnw id e
                omega
              have hys : ∀ id, a.has id → ys.bid ≠ some id := fun id q e => by
                have := hDw.lt id q
                have := hns' id e
                omega
              skip
              all_goals (conv => whnf)
              all_goals (try dsimp only)
              refine Crash_ok hDs r3.ok (keep := K) (.sl false rfl) hK (fun _ _ q => by cases q) _ fun τc hDc hgc => ?_
              replace how := Own.keepP how hgc hyw
              replace hos := Own.keepP hos hgc hys
              have hRc := r3.crash K
              have hlc := crash_len r3 K
              have hlk := fun i => line_kept r3 K i
              have hnc := hRc.ok.len
              have hsk := sure_kept r3 K hsu.1.1 (by omega) hsu.2
              obtain ⟨⟨hat, hat2⟩, _⟩ := hsu
              skip
              all_goals (conv => whnf)
              all_goals (try dsimp only)
              refine Image_ok hDc (by omega) _ fun yn τn hgn hon hnn => ?_
              have hDn := hDc.keepN hgn
              replace how := how.keepN hgn
              replace hos := hos.keepN hgn
              skip
              all_goals (conv => whnf)
              all_goals (try dsimp only)
              refine View_ok hDn (by omega) _ fun yv τv hgv hov hnv => ?_
              rw [crash_S] at hov
              have hDv := hDn.keepN hgv
              replace how := how.keepN hgv
              replace hos := hos.keepN hgv
              replace hon := hon.keepN hgv
              have hbw := bs_length f.L
              have hbsS := bs_length f.S
              have hbn := bs_length (crashD K f).L
              have nvv : ¬ ((crashD K f).L ≠ (crashD K f).L) := by simp
              repeat' (first
                | ((conv => whnf) <;> (first
                | (with_reducible refine and_same ?_)
                | ((with_reducible apply Br.no) ; (focus omega))
                | ((with_reducible apply lenR_own) ; (focus assumption))
                | ((with_reducible apply rowsR_own) ; (focus assumption))
                | (with_reducible refine lenR_sl ?_)
                | ((with_reducible apply bytesR_intro) ; (focus (first | rfl | (simp only [bs_take, bs_drop, bs_append]; rfl))))
                ))
                )
              all_goals (conv => whnf)
              all_goals (try dsimp only)
              refine Down_ok hDv _ ?_
              rw [show (crashD K f).down = false from rfl]
              skip
              all_goals (conv => whnf)
              all_goals (try dsimp only)
              refine Dirty_ok hDv hRc.ok.map hRc.ok.few _ fun yd τd hgd hod hnd => ?_
              change Own τd 1 yd (is (srt [])) at hod
              have s0 : (is (srt ([] : List Int))).length = 0 := by simp [is, srt]
              replace how := how.keepN hgd
              replace hos := hos.keepN hgd
              replace hon := hon.keepN hgd
              clear hov nvv
              generalize crashD K f = g at *
              have hne : ∀ L : List UInt8, L.length = d.L.length → bs L ≠ [] := fun L hL e => by
                rw [bs_eq_nil] at e
                rw [e] at hL
                simp only [List.length_nil] at hL
                omega
              repeat' (first
                | ((conv => whnf) <;> (first
                | (with_reducible refine and_same ?_)
                | ((with_reducible apply Br.no) ; (focus omega))
                | ((with_reducible apply lenR_own) ; (focus assumption))
                ))
                )
              all_goals (conv => whnf)
              all_goals (try dsimp only)
              clear hod s0
              obtain ⟨iw, gw, sw, rfl, bw⟩ := how.ne (hne _ l3)
              obtain ⟨iS, gS, sS, rfl, bS⟩ := hos.ne (hne _ (by omega))
              obtain ⟨iN, gN, sN, rfl, bN⟩ := hon.ne (hne _ (by omega))
              have al := hRc.ok.al
              refine loop_at (α := Nat) (fun q => [(20, .int .i64 (64 * (q : Int)))]) (fun _ => τd) (fun q => 64 * q ≤ g.L.length) (fun q => g.L.length - 64 * q) 0 (Nat.zero_le _) rfl rfl ?_
              rintro j hj
              try dsimp only at hj ⊢
              by_cases hjl : 64 * j < g.L.length
              · have en : (64 * (j : Int)).toNat = 64 * j := by omega
                have en2 : (64 * (j : Int) + 64).toNat - 64 * j = 64 := by omega
                rcases hlk j with hq | hq
                · have hqq : ¬ ((g.L.drop (64 * j)).take 64 ≠ (f.L.drop (64 * j)).take 64) := fun q => q hq
                  repeat' (first
                    | ((with_reducible refine Side.intro ?_) <;> (first
                    | omega
                    | (simp only [bs_length, List.length_append, List.length_cons, List.length_nil, List.length_take, List.length_drop, List.length_set, List.length_replicate]; omega)
                    ))
                    | ((conv => whnf) <;> (first
                    | (with_reducible refine and_same ?_)
                    | (with_reducible refine and_side ?_ ?_)
                    | ((with_reducible apply Br.yes) ; (focus omega))
                    | ((with_reducible apply blkAt_step) ; (focus (first
                    | ((repeat (first
                    | assumption
                    )); done)
                    )) ; (focus (first | rfl | assumption | omega)) ; (focus (first | rfl | assumption)) ; (try dsimp only))
                    | ((with_reducible apply lenR_own) ; (focus assumption))
                    | (with_reducible refine SliceW.of ?_)
                    | (with_reducible refine rowsR_rsl ?_)
                    ))
                    )
                  all_goals (conv => whnf)
                  all_goals (try dsimp only)
                  rw [en, en2, show 0 + 64 * j = 64 * j from Nat.zero_add _]
                  refine bytesR_intro (rows_bs (by omega)) ?_
                  repeat' (first
                    | ((with_reducible refine Side.intro ?_) <;> (first
                    | omega
                    | (simp only [bs_length, List.length_append, List.length_cons, List.length_nil, List.length_take, List.length_drop, List.length_set, List.length_replicate]; omega)
                    ))
                    | ((conv => whnf) <;> (first
                    | (with_reducible refine and_same ?_)
                    | (with_reducible refine and_side ?_ ?_)
                    | ((with_reducible apply Br.yes) ; (focus omega))
                    | ((with_reducible apply blkAt_step) ; (focus (first
                    | ((repeat (first
                    | assumption
                    )); done)
                    )) ; (focus (first | rfl | assumption | omega)) ; (focus (first | rfl | assumption)) ; (try dsimp only))
                    | (with_reducible refine SliceW.of ?_)
                    | (with_reducible refine rowsR_rsl ?_)
                    ))
                    )
                  all_goals (conv => whnf)
                  all_goals (try dsimp only)
                  rw [en, en2, show 0 + 64 * j = 64 * j from Nat.zero_add _]
                  refine bytesR_intro (rows_bs (by omega)) ?_
                  repeat' (first
                    | ((conv => whnf) <;> (first
                    | (with_reducible refine and_same ?_)
                    | ((with_reducible apply Br.yes) ; (focus omega))
                    | ((with_reducible apply Br.no) ; (focus omega))
                    ))
                    )
                  all_goals (conv => whnf)
                  all_goals (try dsimp only)
                  exact ⟨j + 1, by simp [Fr.upd, Fr.pick]; omega, rfl, by omega, by omega⟩
                · have hqq : ¬ ((g.L.drop (64 * j)).take 64 ≠ (f.S.drop (64 * j)).take 64) := fun q => q hq
                  repeat' (first
                    | ((with_reducible refine Side.intro ?_) <;> (first
                    | omega
                    | (simp only [bs_length, List.length_append, List.length_cons, List.length_nil, List.length_take, List.length_drop, List.length_set, List.length_replicate]; omega)
                    ))
                    | ((conv => whnf) <;> (first
                    | (with_reducible refine and_same ?_)
                    | (with_reducible refine and_side ?_ ?_)
                    | ((with_reducible apply Br.yes) ; (focus omega))
                    | ((with_reducible apply blkAt_step) ; (focus (first
                    | ((repeat (first
                    | assumption
                    )); done)
                    )) ; (focus (first | rfl | assumption | omega)) ; (focus (first | rfl | assumption)) ; (try dsimp only))
                    | ((with_reducible apply lenR_own) ; (focus assumption))
                    | (with_reducible refine SliceW.of ?_)
                    | (with_reducible refine rowsR_rsl ?_)
                    ))
                    )
                  all_goals (conv => whnf)
                  all_goals (try dsimp only)
                  rw [en, en2, show 0 + 64 * j = 64 * j from Nat.zero_add _]
                  refine bytesR_intro (rows_bs (by omega)) ?_
                  repeat' (first
                    | ((with_reducible refine Side.intro ?_) <;> (first
                    | omega
                    | (simp only [bs_length, List.length_append, List.length_cons, List.length_nil, List.length_take, List.length_drop, List.length_set, List.length_replicate]; omega)
                    ))
                    | ((conv => whnf) <;> (first
                    | (with_reducible refine and_same ?_)
                    | (with_reducible refine and_side ?_ ?_)
                    | ((with_reducible apply Br.yes) ; (focus omega))
                    | ((with_reducible apply blkAt_step) ; (focus (first
                    | ((repeat (first
                    | assumption
                    )); done)
                    )) ; (focus (first | rfl | assumption | omega)) ; (focus (first | rfl | assumption)) ; (try dsimp only))
                    | (with_reducible refine SliceW.of ?_)
                    | (with_reducible refine rowsR_rsl ?_)
                    ))
                    )
                  all_goals (conv => whnf)
                  all_goals (try dsimp only)
                  rw [en, en2, show 0 + 64 * j = 64 * j from Nat.zero_add _]
                  refine bytesR_intro (rows_bs (by omega)) ?_
                  repeat' (first
                    | ((with_reducible refine Side.intro ?_) <;> (first
                    | omega
                    | (simp only [bs_length, List.length_append, List.length_cons, List.length_nil, List.length_take, List.length_drop, List.length_set, List.length_replicate]; omega)
                    ))
                    | ((conv => whnf) <;> (first
                    | (with_reducible refine and_same ?_)
                    | (with_reducible refine and_side ?_ ?_)
                    | ((with_reducible apply Br.yes) ; (focus omega))
                    | (with_reducible refine Br.mk (fun _ => ?_) (fun _ => ?_))
                    | ((with_reducible apply blkAt_step) ; (focus (first
                    | ((repeat (first
                    | assumption
                    )); done)
                    )) ; (focus (first | rfl | assumption | omega)) ; (focus (first | rfl | assumption)) ; (try dsimp only))
                    | (with_reducible refine SliceW.of ?_)
                    | (with_reducible refine rowsR_rsl ?_)
                    ))
                    )
                  all_goals (conv => whnf)
                  all_goals (try dsimp only)
                  · rw [en, en2, show 0 + 64 * j = 64 * j from Nat.zero_add _]
                    refine bytesR_intro (rows_bs (by omega)) ?_
                    repeat' (first
                      | ((conv => whnf) <;> (first
                      | (with_reducible refine and_same ?_)
                      | ((with_reducible apply Br.yes) ; (focus omega))
                      | ((with_reducible apply Br.no) ; (focus omega))
                      ))
                      )
                    all_goals (conv => whnf)
                    all_goals (try dsimp only)
                    exact ⟨j + 1, by simp [Fr.upd, Fr.pick]; omega, rfl, by omega, by omega⟩
                  · exact ⟨j + 1, by simp [Fr.upd, Fr.pick]; omega, rfl, by omega, by omega⟩
              · have en : (at' + (b.length : Int)).toNat - at'.toNat = b.length := by omega
                repeat' (first
                  | ((with_reducible refine Side.intro ?_) <;> (first
                  | omega
                  | (simp only [bs_length, List.length_append, List.length_cons, List.length_nil, List.length_take, List.length_drop, List.length_set, List.length_replicate]; omega)
                  ))
                  | ((conv => whnf) <;> (first
                  | (with_reducible refine and_same ?_)
                  | (with_reducible refine and_side ?_ ?_)
                  | ((with_reducible apply Br.yes) ; (focus omega))
                  | ((with_reducible apply Br.no) ; (focus omega))
                  | ((with_reducible apply blkAt_step) ; (focus (first
                  | ((repeat (first
                  | assumption
                  )); done)
                  )) ; (focus (first | rfl | assumption | omega)) ; (focus (first | rfl | assumption)) ; (try dsimp only))
                  | ((with_reducible apply lenR_own) ; (focus assumption))
                  | (with_reducible refine SliceW.of ?_)
                  | (with_reducible refine lenR_sl ?_)
                  | (with_reducible refine rowsR_rsl ?_)
                  ))
                  )
                all_goals (conv => whnf)
                all_goals (try dsimp only)
                rw [hnb, en, show 0 + at'.toNat = at'.toNat from Nat.zero_add _]
                refine bytesR_intro (rows_bs (by omega)) ?_
                rw [hsk]
                repeat' (first
                  | ((with_reducible refine Side.intro ?_) <;> (first
                  | (simp only [List.append_nil, List.nil_append, List.map_nil]; first | exact List.nodup_nil | exact nodup_bid1 _ | exact nodup_bid2 (by assumption))
                  | ((first | refine fresh_tup ?_ | skip); (repeat (first |  exact FreshA.sl _ _ FreshA_bs | exact FreshA.sl _ _ FreshA_is | exact FreshA.nils | exact FreshA.nilp | exact FreshA.int _ _ | exact FreshA.bool _ | exact FreshA.str _ | exact fresh_nil | refine fresh_cons ?_ ?_ | with_reducible refine fresh_aggR ?_ | with_reducible refine fresh_agg ?_ | with_reducible exact fresh_nilA | with_reducible refine fresh_consA ?_ ?_)); done)
                  ))
                  | ((conv => whnf) <;> (first
                  | (with_reducible refine and_side ?_ ?_)
                  | (with_reducible refine Br.yes rfl ?_)
                  | (with_reducible refine NOut.lit ?_)
                  | (with_reducible refine rowsR_sl ?_)
                  | ((with_reducible apply bytesR_intro) ; (focus (first | rfl | (simp only [bs_take, bs_drop, bs_append]; rfl))))
                  ))
                  )
                all_goals (conv => whnf)
                all_goals (try dsimp only)
                exact ret_bool rfl
            · have hsu : True := trivial
              rw [← hLs] at l3
              generalize (fenceD (flushD (storeD d at' b).2 at' b.length).2).1 = k at *
              clear hsure
              generalize (fenceD (flushD (storeD d at' b).2 at' b.length).2).2 = f at *
              have hfl := r3.ok.le
              have hfn := r3.ok.len
              have hsp := hG.1
              repeat' (first
                | ((conv => whnf) <;> (first
                | (with_reducible refine and_same ?_)
                | ((with_reducible apply Br.no) ; (focus omega))
                ))
                )
              all_goals (conv => whnf)
              all_goals (try dsimp only)
              refine Image_ok hD6 (by omega) _ fun yw τw hgw how hnw => ?_
              have hDw := hD6.keepN hgw
              skip
              all_goals (conv => whnf)
              all_goals (try dsimp only)
              refine View_ok hDw (by omega) _ fun ys τs hgs hos hns' => ?_
              have hDs := hDw.keepN hgs
              replace how := how.keepN hgs
              have hyw : ∀ id, a.has id → yw.bid ≠ some id := fun id q e => by
                have := hD6.lt id q
                have := hnw id e
                omega
              have hys : ∀ id, a.has id → ys.bid ≠ some id := fun id q e => by
                have := hDw.lt id q
                have := hns' id e
                omega
              skip
              all_goals (conv => whnf)
              all_goals (try dsimp only)
              refine Crash_ok hDs r3.ok (keep := K) (.sl false rfl) hK (fun _ _ q => by cases q) _ fun τc hDc hgc => ?_
              replace how := Own.keepP how hgc hyw
              replace hos := Own.keepP hos hgc hys
              have hRc := r3.crash K
              have hlc := crash_len r3 K
              have hlk := fun i => line_kept r3 K i
              have hnc := hRc.ok.len
              skip
              skip
              all_goals (conv => whnf)
              all_goals (try dsimp only)
              refine Image_ok hDc (by omega) _ fun yn τn hgn hon hnn => ?_
              have hDn := hDc.keepN hgn
              replace how := how.keepN hgn
              replace hos := hos.keepN hgn
              skip
              all_goals (conv => whnf)
              all_goals (try dsimp only)
              refine View_ok hDn (by omega) _ fun yv τv hgv hov hnv => ?_
              rw [crash_S] at hov
              have hDv := hDn.keepN hgv
              replace how := how.keepN hgv
              replace hos := hos.keepN hgv
              replace hon := hon.keepN hgv
              have hbw := bs_length f.L
              have hbsS := bs_length f.S
              have hbn := bs_length (crashD K f).L
              have nvv : ¬ ((crashD K f).L ≠ (crashD K f).L) := by simp
              repeat' (first
                | ((conv => whnf) <;> (first
                | (with_reducible refine and_same ?_)
                | ((with_reducible apply Br.no) ; (focus omega))
                | ((with_reducible apply lenR_own) ; (focus assumption))
                | ((with_reducible apply rowsR_own) ; (focus assumption))
                | (with_reducible refine lenR_sl ?_)
                | ((with_reducible apply bytesR_intro) ; (focus (first | rfl | (simp only [bs_take, bs_drop, bs_append]; rfl))))
                ))
                )
              all_goals (conv => whnf)
              all_goals (try dsimp only)
              refine Down_ok hDv _ ?_
              rw [show (crashD K f).down = false from rfl]
              skip
              all_goals (conv => whnf)
              all_goals (try dsimp only)
              refine Dirty_ok hDv hRc.ok.map hRc.ok.few _ fun yd τd hgd hod hnd => ?_
              change Own τd 1 yd (is (srt [])) at hod
              have s0 : (is (srt ([] : List Int))).length = 0 := by simp [is, srt]
              replace how := how.keepN hgd
              replace hos := hos.keepN hgd
              replace hon := hon.keepN hgd
              clear hov nvv
              generalize crashD K f = g at *
              have hne : ∀ L : List UInt8, L.length = d.L.length → bs L ≠ [] := fun L hL e => by
                rw [bs_eq_nil] at e
                rw [e] at hL
                simp only [List.length_nil] at hL
                omega
              repeat' (first
                | ((conv => whnf) <;> (first
                | (with_reducible refine and_same ?_)
                | ((with_reducible apply Br.no) ; (focus omega))
                | ((with_reducible apply lenR_own) ; (focus assumption))
                ))
                )
              all_goals (conv => whnf)
              all_goals (try dsimp only)
              clear hod s0
              obtain ⟨iw, gw, sw, rfl, bw⟩ := how.ne (hne _ l3)
              obtain ⟨iS, gS, sS, rfl, bS⟩ := hos.ne (hne _ (by omega))
              obtain ⟨iN, gN, sN, rfl, bN⟩ := hon.ne (hne _ (by omega))
              have al := hRc.ok.al
              refine loop_at (α := Nat) (fun q => [(20, .int .i64 (64 * (q : Int)))]) (fun _ => τd) (fun q => 64 * q ≤ g.L.length) (fun q => g.L.length - 64 * q) 0 (Nat.zero_le _) rfl rfl ?_
              rintro j hj
              try dsimp only at hj ⊢
              by_cases hjl : 64 * j < g.L.length
              · have en : (64 * (j : Int)).toNat = 64 * j := by omega
                have en2 : (64 * (j : Int) + 64).toNat - 64 * j = 64 := by omega
                rcases hlk j with hq | hq
                · have hqq : ¬ ((g.L.drop (64 * j)).take 64 ≠ (f.L.drop (64 * j)).take 64) := fun q => q hq
                  repeat' (first
                    | ((with_reducible refine Side.intro ?_) <;> (first
                    | omega
                    | (simp only [bs_length, List.length_append, List.length_cons, List.length_nil, List.length_take, List.length_drop, List.length_set, List.length_replicate]; omega)
                    ))
                    | ((conv => whnf) <;> (first
                    | (with_reducible refine and_same ?_)
                    | (with_reducible refine and_side ?_ ?_)
                    | ((with_reducible apply Br.yes) ; (focus omega))
                    | ((with_reducible apply blkAt_step) ; (focus (first
                    | ((repeat (first
                    | assumption
                    )); done)
                    )) ; (focus (first | rfl | assumption | omega)) ; (focus (first | rfl | assumption)) ; (try dsimp only))
                    | ((with_reducible apply lenR_own) ; (focus assumption))
                    | (with_reducible refine SliceW.of ?_)
                    | (with_reducible refine rowsR_rsl ?_)
                    ))
                    )
                  all_goals (conv => whnf)
                  all_goals (try dsimp only)
                  rw [en, en2, show 0 + 64 * j = 64 * j from Nat.zero_add _]
                  refine bytesR_intro (rows_bs (by omega)) ?_
                  repeat' (first
                    | ((with_reducible refine Side.intro ?_) <;> (first
                    | omega
                    | (simp only [bs_length, List.length_append, List.length_cons, List.length_nil, List.length_take, List.length_drop, List.length_set, List.length_replicate]; omega)
                    ))
                    | ((conv => whnf) <;> (first
                    | (with_reducible refine and_same ?_)
                    | (with_reducible refine and_side ?_ ?_)
                    | ((with_reducible apply Br.yes) ; (focus omega))
                    | ((with_reducible apply blkAt_step) ; (focus (first
                    | ((repeat (first
                    | assumption
                    )); done)
                    )) ; (focus (first | rfl | assumption | omega)) ; (focus (first | rfl | assumption)) ; (try dsimp only))
                    | (with_reducible refine SliceW.of ?_)
                    | (with_reducible refine rowsR_rsl ?_)
                    ))
                    )
                  all_goals (conv => whnf)
                  all_goals (try dsimp only)
                  rw [en, en2, show 0 + 64 * j = 64 * j from Nat.zero_add _]
                  refine bytesR_intro (rows_bs (by omega)) ?_
                  repeat' (first
                    | ((conv => whnf) <;> (first
                    | (with_reducible refine and_same ?_)
                    | ((with_reducible apply Br.yes) ; (focus omega))
                    | ((with_reducible apply Br.no) ; (focus omega))
                    ))
                    )
                  all_goals (conv => whnf)
                  all_goals (try dsimp only)
                  exact ⟨j + 1, by simp [Fr.upd, Fr.pick]; omega, rfl, by omega, by omega⟩
                · have hqq : ¬ ((g.L.drop (64 * j)).take 64 ≠ (f.S.drop (64 * j)).take 64) := fun q => q hq
                  repeat' (first
                    | ((with_reducible refine Side.intro ?_) <;> (first
                    | omega
                    | (simp only [bs_length, List.length_append, List.length_cons, List.length_nil, List.length_take, List.length_drop, List.length_set, List.length_replicate]; omega)
                    ))
                    | ((conv => whnf) <;> (first
                    | (with_reducible refine and_same ?_)
                    | (with_reducible refine and_side ?_ ?_)
                    | ((with_reducible apply Br.yes) ; (focus omega))
                    | ((with_reducible apply blkAt_step) ; (focus (first
                    | ((repeat (first
                    | assumption
                    )); done)
                    )) ; (focus (first | rfl | assumption | omega)) ; (focus (first | rfl | assumption)) ; (try dsimp only))
                    | ((with_reducible apply lenR_own) ; (focus assumption))
                    | (with_reducible refine SliceW.of ?_)
                    | (with_reducible refine rowsR_rsl ?_)
                    ))
                    )
                  all_goals (conv => whnf)
                  all_goals (try dsimp only)
                  rw [en, en2, show 0 + 64 * j = 64 * j from Nat.zero_add _]
                  refine bytesR_intro (rows_bs (by omega)) ?_
                  repeat' (first
                    | ((with_reducible refine Side.intro ?_) <;> (first
                    | omega
                    | (simp only [bs_length, List.length_append, List.length_cons, List.length_nil, List.length_take, List.length_drop, List.length_set, List.length_replicate]; omega)
                    ))
                    | ((conv => whnf) <;> (first
                    | (with_reducible refine and_same ?_)
                    | (with_reducible refine and_side ?_ ?_)
                    | ((with_reducible apply Br.yes) ; (focus omega))
                    | ((with_reducible apply blkAt_step) ; (focus (first
                    | ((repeat (first
                    | assumption
                    )); done)
                    )) ; (focus (first | rfl | assumption | omega)) ; (focus (first | rfl | assumption)) ; (try dsimp only))
                    | (with_reducible refine SliceW.of ?_)
                    | (with_reducible refine rowsR_rsl ?_)
                    ))
                    )
                  all_goals (conv => whnf)
                  all_goals (try dsimp only)
                  rw [en, en2, show 0 + 64 * j = 64 * j from Nat.zero_add _]
                  refine bytesR_intro (rows_bs (by omega)) ?_
                  repeat' (first
                    | ((with_reducible refine Side.intro ?_) <;> (first
                    | omega
                    | (simp only [bs_length, List.length_append, List.length_cons, List.length_nil, List.length_take, List.length_drop, List.length_set, List.length_replicate]; omega)
                    ))
                    | ((conv => whnf) <;> (first
                    | (with_reducible refine and_same ?_)
                    | (with_reducible refine and_side ?_ ?_)
                    | ((with_reducible apply Br.yes) ; (focus omega))
                    | (with_reducible refine Br.mk (fun _ => ?_) (fun _ => ?_))
                    | ((with_reducible apply blkAt_step) ; (focus (first
                    | ((repeat (first
                    | assumption
                    )); done)
                    )) ; (focus (first | rfl | assumption | omega)) ; (focus (first | rfl | assumption)) ; (try dsimp only))
                    | (with_reducible refine SliceW.of ?_)
                    | (with_reducible refine rowsR_rsl ?_)
                    ))
                    )
                  all_goals (conv => whnf)
                  all_goals (try dsimp only)
                  · rw [en, en2, show 0 + 64 * j = 64 * j from Nat.zero_add _]
                    refine bytesR_intro (rows_bs (by omega)) ?_
                    repeat' (first
                      | ((conv => whnf) <;> (first
                      | (with_reducible refine and_same ?_)
                      | ((with_reducible apply Br.yes) ; (focus omega))
                      | ((with_reducible apply Br.no) ; (focus omega))
                      ))
                      )
                    all_goals (conv => whnf)
                    all_goals (try dsimp only)
                    exact ⟨j + 1, by simp [Fr.upd, Fr.pick]; omega, rfl, by omega, by omega⟩
                  · exact ⟨j + 1, by simp [Fr.upd, Fr.pick]; omega, rfl, by omega, by omega⟩
              · repeat' (first
                  | ((with_reducible refine Side.intro ?_) <;> (first
                  | (simp only [List.append_nil, List.nil_append, List.map_nil]; first | exact List.nodup_nil | exact nodup_bid1 _ | exact nodup_bid2 (by assumption))
                  | ((first | refine fresh_tup ?_ | skip); (repeat (first |  exact FreshA.sl _ _ FreshA_bs | exact FreshA.sl _ _ FreshA_is | exact FreshA.nils | exact FreshA.nilp | exact FreshA.int _ _ | exact FreshA.bool _ | exact FreshA.str _ | exact fresh_nil | refine fresh_cons ?_ ?_ | with_reducible refine fresh_aggR ?_ | with_reducible refine fresh_agg ?_ | with_reducible exact fresh_nilA | with_reducible refine fresh_consA ?_ ?_)); done)
                  ))
                  | ((conv => whnf) <;> (first
                  | (with_reducible refine and_same ?_)
                  | (with_reducible refine and_side ?_ ?_)
                  | ((with_reducible apply Br.no) ; (focus omega))
                  | ((with_reducible apply lenR_own) ; (focus assumption))
                  | (with_reducible refine NOut.lit ?_)
                  ))
                  )
                all_goals (conv => whnf)
                all_goals (try dsimp only)
                exact ret_bool rfl
          · have hsu : True := trivial
            rw [← hLs] at l2
            generalize (flushD (storeD d at' b).2 at' b.length).1 = k at *
            clear hsure
            generalize (flushD (storeD d at' b).2 at' b.length).2 = f at *
            have hfl := r2.ok.le
            have hfn := r2.ok.len
            have hsp := hG.1
            repeat' (first
              | ((conv => whnf) <;> (first
              | (with_reducible refine and_same ?_)
              | ((with_reducible apply Br.no) ; (focus omega))
              ))
              )
            all_goals (conv => whnf)
            all_goals (try dsimp only)
            refine Image_ok hD5 (by omega) _ fun yw τw hgw how hnw => ?_
            have hDw := hD5.keepN hgw
            skip
            all_goals (conv => whnf)
            all_goals (try dsimp only)
            refine View_ok hDw (by omega) _ fun ys τs hgs hos hns' => ?_
            have hDs := hDw.keepN hgs
            replace how := how.keepN hgs
            have hyw : ∀ id, a.has id → yw.bid ≠ some id := fun id q e => by
              have := hD5.lt id q
              have := hnw id e
              omega
            have hys : ∀ id, a.has id → ys.bid ≠ some id := fun id q e => by
              have := hDw.lt id q
              have := hns' id e
              omega
            skip
            all_goals (conv => whnf)
            all_goals (try dsimp only)
            refine Crash_ok hDs r2.ok (keep := K) (.sl false rfl) hK (fun _ _ q => by cases q) _ fun τc hDc hgc => ?_
            replace how := Own.keepP how hgc hyw
            replace hos := Own.keepP hos hgc hys
            have hRc := r2.crash K
            have hlc := crash_len r2 K
            have hlk := fun i => line_kept r2 K i
            have hnc := hRc.ok.len
            skip
            skip
            all_goals (conv => whnf)
            all_goals (try dsimp only)
            refine Image_ok hDc (by omega) _ fun yn τn hgn hon hnn => ?_
            have hDn := hDc.keepN hgn
            replace how := how.keepN hgn
            replace hos := hos.keepN hgn
            skip
            all_goals (conv => whnf)
            all_goals (try dsimp only)
            refine View_ok hDn (by omega) _ fun yv τv hgv hov hnv => ?_
            rw [crash_S] at hov
            have hDv := hDn.keepN hgv
            replace how := how.keepN hgv
            replace hos := hos.keepN hgv
            replace hon := hon.keepN hgv
            have hbw := bs_length f.L
            have hbsS := bs_length f.S
            have hbn := bs_length (crashD K f).L
            have nvv : ¬ ((crashD K f).L ≠ (crashD K f).L) := by simp
            repeat' (first
              | ((conv => whnf) <;> (first
              | (with_reducible refine and_same ?_)
              | ((with_reducible apply Br.no) ; (focus omega))
              | ((with_reducible apply lenR_own) ; (focus assumption))
              | ((with_reducible apply rowsR_own) ; (focus assumption))
              | (with_reducible refine lenR_sl ?_)
              | ((with_reducible apply bytesR_intro) ; (focus (first | rfl | (simp only [bs_take, bs_drop, bs_append]; rfl))))
              ))
              )
            all_goals (conv => whnf)
            all_goals (try dsimp only)
            refine Down_ok hDv _ ?_
            rw [show (crashD K f).down = false from rfl]
            skip
            all_goals (conv => whnf)
            all_goals (try dsimp only)
            refine Dirty_ok hDv hRc.ok.map hRc.ok.few _ fun yd τd hgd hod hnd => ?_
            change Own τd 1 yd (is (srt [])) at hod
            have s0 : (is (srt ([] : List Int))).length = 0 := by simp [is, srt]
            replace how := how.keepN hgd
            replace hos := hos.keepN hgd
            replace hon := hon.keepN hgd
            clear hov nvv
            generalize crashD K f = g at *
            have hne : ∀ L : List UInt8, L.length = d.L.length → bs L ≠ [] := fun L hL e => by
              rw [bs_eq_nil] at e
              rw [e] at hL
              simp only [List.length_nil] at hL
              omega
            repeat' (first
              | ((conv => whnf) <;> (first
              | (with_reducible refine and_same ?_)
              | ((with_reducible apply Br.no) ; (focus omega))
              | ((with_reducible apply lenR_own) ; (focus assumption))
              ))
              )
            all_goals (conv => whnf)
            all_goals (try dsimp only)
            clear hod s0
            obtain ⟨iw, gw, sw, rfl, bw⟩ := how.ne (hne _ l2)
            obtain ⟨iS, gS, sS, rfl, bS⟩ := hos.ne (hne _ (by omega))
            obtain ⟨iN, gN, sN, rfl, bN⟩ := hon.ne (hne _ (by omega))
            have al := hRc.ok.al
            refine loop_at (α := Nat) (fun q => [(20, .int .i64 (64 * (q : Int)))]) (fun _ => τd) (fun q => 64 * q ≤ g.L.length) (fun q => g.L.length - 64 * q) 0 (Nat.zero_le _) rfl rfl ?_
            rintro j hj
            try dsimp only at hj ⊢
            by_cases hjl : 64 * j < g.L.length
            · have en : (64 * (j : Int)).toNat = 64 * j := by omega
              have en2 : (64 * (j : Int) + 64).toNat - 64 * j = 64 := by omega
              rcases hlk j with hq | hq
              · have hqq : ¬ ((g.L.drop (64 * j)).take 64 ≠ (f.L.drop (64 * j)).take 64) := fun q => q hq
                repeat' (first
                  | ((with_reducible refine Side.intro ?_) <;> (first
                  | omega
                  | (simp only [bs_length, List.length_append, List.length_cons, List.length_nil, List.length_take, List.length_drop, List.length_set, List.length_replicate]; omega)
                  ))
                  | ((conv => whnf) <;> (first
                  | (with_reducible refine and_same ?_)
                  | (with_reducible refine and_side ?_ ?_)
                  | ((with_reducible apply Br.yes) ; (focus omega))
                  | ((with_reducible apply blkAt_step) ; (focus (first
                  | ((repeat (first
                  | assumption
                  )); done)
                  )) ; (focus (first | rfl | assumption | omega)) ; (focus (first | rfl | assumption)) ; (try dsimp only))
                  | ((with_reducible apply lenR_own) ; (focus assumption))
                  | (with_reducible refine SliceW.of ?_)
                  | (with_reducible refine rowsR_rsl ?_)
                  ))
                  )
                all_goals (conv => whnf)
                all_goals (try dsimp only)
                rw [en, en2, show 0 + 64 * j = 64 * j from Nat.zero_add _]
                refine bytesR_intro (rows_bs (by omega)) ?_
                repeat' (first
                  | ((with_reducible refine Side.intro ?_) <;> (first
                  | omega
                  | (simp only [bs_length, List.length_append, List.length_cons, List.length_nil, List.length_take, List.length_drop, List.length_set, List.length_replicate]; omega)
                  ))
                  | ((conv => whnf) <;> (first
                  | (with_reducible refine and_same ?_)
                  | (with_reducible refine and_side ?_ ?_)
                  | ((with_reducible apply Br.yes) ; (focus omega))
                  | ((with_reducible apply blkAt_step) ; (focus (first
                  | ((repeat (first
                  | assumption
                  )); done)
                  )) ; (focus (first | rfl | assumption | omega)) ; (focus (first | rfl | assumption)) ; (try dsimp only))
                  | (with_reducible refine SliceW.of ?_)
                  | (with_reducible refine rowsR_rsl ?_)
                  ))
                  )
                all_goals (conv => whnf)
                all_goals (try dsimp only)
                rw [en, en2, show 0 + 64 * j = 64 * j from Nat.zero_add _]
                refine bytesR_intro (rows_bs (by omega)) ?_
                repeat' (first
                  | ((conv => whnf) <;> (first
                  | (with_reducible refine and_same ?_)
                  | ((with_reducible apply Br.yes) ; (focus omega))
                  | ((with_reducible apply Br.no) ; (focus omega))
                  ))
                  )
                all_goals (conv => whnf)
                all_goals (try dsimp only)
                exact ⟨j + 1, by simp [Fr.upd, Fr.pick]; omega, rfl, by omega, by omega⟩
              · have hqq : ¬ ((g.L.drop (64 * j)).take 64 ≠ (f.S.drop (64 * j)).take 64) := fun q => q hq
                repeat' (first
                  | ((with_reducible refine Side.intro ?_) <;> (first
                  | omega
                  | (simp only [bs_length, List.length_append, List.length_cons, List.length_nil, List.length_take, List.length_drop, List.length_set, List.length_replicate]; omega)
                  ))
                  | ((conv => whnf) <;> (first
                  | (with_reducible refine and_same ?_)
                  | (with_reducible refine and_side ?_ ?_)
                  | ((with_reducible apply Br.yes) ; (focus omega))
                  | ((with_reducible apply blkAt_step) ; (focus (first
                  | ((repeat (first
                  | assumption
                  )); done)
                  )) ; (focus (first | rfl | assumption | omega)) ; (focus (first | rfl | assumption)) ; (try dsimp only))
                  | ((with_reducible apply lenR_own) ; (focus assumption))
                  | (with_reducible refine SliceW.of ?_)
                  | (with_reducible refine rowsR_rsl ?_)
                  ))
                  )
                all_goals (conv => whnf)
                all_goals (try dsimp only)
                rw [en, en2, show 0 + 64 * j = 64 * j from Nat.zero_add _]
                refine bytesR_intro (rows_bs (by omega)) ?_
                repeat' (first
                  | ((with_reducible refine Side.intro ?_) <;> (first
                  | omega
                  | (simp only [bs_length, List.length_append, List.length_cons, List.length_nil, List.length_take, List.length_drop, List.length_set, List.length_replicate]; omega)
                  ))
                  | ((conv => whnf) <;> (first
                  | (with_reducible refine and_same ?_)
                  | (with_reducible refine and_side ?_ ?_)
                  | ((with_reducible apply Br.yes) ; (focus omega))
                  | ((with_reducible apply blkAt_step) ; (focus (first
                  | ((repeat (first
                  | assumption
                  )); done)
                  )) ; (focus (first | rfl | assumption | omega)) ; (focus (first | rfl | assumption)) ; (try dsimp only))
                  | (with_reducible refine SliceW.of ?_)
                  | (with_reducible refine rowsR_rsl ?_)
                  ))
                  )
                all_goals (conv => whnf)
                all_goals (try dsimp only)
                rw [en, en2, show 0 + 64 * j = 64 * j from Nat.zero_add _]
                refine bytesR_intro (rows_bs (by omega)) ?_
                repeat' (first
                  | ((with_reducible refine Side.intro ?_) <;> (first
                  | omega
                  | (simp only [bs_length, List.length_append, List.length_cons, List.length_nil, List.length_take, List.length_drop, List.length_set, List.length_replicate]; omega)
                  ))
                  | ((conv => whnf) <;> (first
                  | (with_reducible refine and_same ?_)
                  | (with_reducible refine and_side ?_ ?_)
                  | ((with_reducible apply Br.yes) ; (focus omega))
                  | (with_reducible refine Br.mk (fun _ => ?_) (fun _ => ?_))
                  | ((with_reducible apply blkAt_step) ; (focus (first
                  | ((repeat (first
                  | assumption
                  )); done)
                  )) ; (focus (first | rfl | assumption | omega)) ; (focus (first | rfl | assumption)) ; (try dsimp only))
                  | (with_reducible refine SliceW.of ?_)
                  | (with_reducible refine rowsR_rsl ?_)
                  ))
                  )
                all_goals (conv => whnf)
                all_goals (try dsimp only)
                · rw [en, en2, show 0 + 64 * j = 64 * j from Nat.zero_add _]
                  refine bytesR_intro (rows_bs (by omega)) ?_
                  repeat' (first
                    | ((conv => whnf) <;> (first
                    | (with_reducible refine and_same ?_)
                    | ((with_reducible apply Br.yes) ; (focus omega))
                    | ((with_reducible apply Br.no) ; (focus omega))
                    ))
                    )
                  all_goals (conv => whnf)
                  all_goals (try dsimp only)
                  exact ⟨j + 1, by simp [Fr.upd, Fr.pick]; omega, rfl, by omega, by omega⟩
                · exact ⟨j + 1, by simp [Fr.upd, Fr.pick]; omega, rfl, by omega, by omega⟩
            · repeat' (first
                | ((with_reducible refine Side.intro ?_) <;> (first
                | (simp only [List.append_nil, List.nil_append, List.map_nil]; first | exact List.nodup_nil | exact nodup_bid1 _ | exact nodup_bid2 (by assumption))
                | ((first | refine fresh_tup ?_ | skip); (repeat (first |  exact FreshA.sl _ _ FreshA_bs | exact FreshA.sl _ _ FreshA_is | exact FreshA.nils | exact FreshA.nilp | exact FreshA.int _ _ | exact FreshA.bool _ | exact FreshA.str _ | exact fresh_nil | refine fresh_cons ?_ ?_ | with_reducible refine fresh_aggR ?_ | with_reducible refine fresh_agg ?_ | with_reducible exact fresh_nilA | with_reducible refine fresh_consA ?_ ?_)); done)
                ))
                | ((conv => whnf) <;> (first
                | (with_reducible refine and_same ?_)
                | (with_reducible refine and_side ?_ ?_)
                | ((with_reducible apply Br.no) ; (focus omega))
                | ((with_reducible apply lenR_own) ; (focus assumption))
                | (with_reducible refine NOut.lit ?_)
                ))
                )
              all_goals (conv => whnf)
              all_goals (try dsimp only)
              exact ret_bool rfl
        · have hsu : True := trivial
          rw [← hLs] at l1
          generalize (storeD d at' b).1 = k at *
          clear hsure
          generalize (storeD d at' b).2 = f at *
          have hfl := r1.ok.le
          have hfn := r1.ok.len
          have hsp := hG.1
          repeat' (first
            | ((conv => whnf) <;> (first
            | (with_reducible refine and_same ?_)
            | ((with_reducible apply Br.no) ; (focus omega))
            ))
            )
          all_goals (conv => whnf)
          all_goals (try dsimp only)
          refine Image_ok hD4 (by omega) _ fun yw τw hgw how hnw => ?_
          have hDw := hD4.keepN hgw
          skip
          all_goals (conv => whnf)
          all_goals (try dsimp only)
          refine View_ok hDw (by omega) _ fun ys τs hgs hos hns' => ?_
          have hDs := hDw.keepN hgs
          replace how := how.keepN hgs
          have hyw : ∀ id, a.has id → yw.bid ≠ some id := fun id q e => by
            have := hD4.lt id q
            have := hnw id e
            omega
          have hys : ∀ id, a.has id → ys.bid ≠ some id := fun id q e => by
            have := hDw.lt id q
            have := hns' id e
            omega
          skip
          all_goals (conv => whnf)
          all_goals (try dsimp only)
          refine Crash_ok hDs r1.ok (keep := K) (.sl false rfl) hK (fun _ _ q => by cases q) _ fun τc hDc hgc => ?_
          replace how := Own.keepP how hgc hyw
          replace hos := Own.keepP hos hgc hys
          have hRc := r1.crash K
          have hlc := crash_len r1 K
          have hlk := fun i => line_kept r1 K i
          have hnc := hRc.ok.len
          skip
          skip
          all_goals (conv => whnf)
          all_goals (try dsimp only)
          refine Image_ok hDc (by omega) _ fun yn τn hgn hon hnn => ?_
          have hDn := hDc.keepN hgn
          replace how := how.keepN hgn
          replace hos := hos.keepN hgn
          skip
          all_goals (conv => whnf)
          all_goals (try dsimp only)
          refine View_ok hDn (by omega) _ fun yv τv hgv hov hnv => ?_
          rw [crash_S] at hov
          have hDv := hDn.keepN hgv
          replace how := how.keepN hgv
          replace hos := hos.keepN hgv
          replace hon := hon.keepN hgv
          have hbw := bs_length f.L
          have hbsS := bs_length f.S
          have hbn := bs_length (crashD K f).L
          have nvv : ¬ ((crashD K f).L ≠ (crashD K f).L) := by simp
          repeat' (first
            | ((conv => whnf) <;> (first
            | (with_reducible refine and_same ?_)
            | ((with_reducible apply Br.no) ; (focus omega))
            | ((with_reducible apply lenR_own) ; (focus assumption))
            | ((with_reducible apply rowsR_own) ; (focus assumption))
            | (with_reducible refine lenR_sl ?_)
            | ((with_reducible apply bytesR_intro) ; (focus (first | rfl | (simp only [bs_take, bs_drop, bs_append]; rfl))))
            ))
            )
          all_goals (conv => whnf)
          all_goals (try dsimp only)
          refine Down_ok hDv _ ?_
          rw [show (crashD K f).down = false from rfl]
          skip
          all_goals (conv => whnf)
          all_goals (try dsimp only)
          refine Dirty_ok hDv hRc.ok.map hRc.ok.few _ fun yd τd hgd hod hnd => ?_
          change Own τd 1 yd (is (srt [])) at hod
          have s0 : (is (srt ([] : List Int))).length = 0 := by simp [is, srt]
          replace how := how.keepN hgd
          replace hos := hos.keepN hgd
          replace hon := hon.keepN hgd
          clear hov nvv
          generalize crashD K f = g at *
          have hne : ∀ L : List UInt8, L.length = d.L.length → bs L ≠ [] := fun L hL e => by
            rw [bs_eq_nil] at e
            rw [e] at hL
            simp only [List.length_nil] at hL
            omega
          repeat' (first
            | ((conv => whnf) <;> (first
            | (with_reducible refine and_same ?_)
            | ((with_reducible apply Br.no) ; (focus omega))
            | ((with_reducible apply lenR_own) ; (focus assumption))
            ))
            )
          all_goals (conv => whnf)
          all_goals (try dsimp only)
          clear hod s0
          obtain ⟨iw, gw, sw, rfl, bw⟩ := how.ne (hne _ l1)
          obtain ⟨iS, gS, sS, rfl, bS⟩ := hos.ne (hne _ (by omega))
          obtain ⟨iN, gN, sN, rfl, bN⟩ := hon.ne (hne _ (by omega))
          have al := hRc.ok.al
          refine loop_at (α := Nat) (fun q => [(20, .int .i64 (64 * (q : Int)))]) (fun _ => τd) (fun q => 64 * q ≤ g.L.length) (fun q => g.L.length - 64 * q) 0 (Nat.zero_le _) rfl rfl ?_
          rintro j hj
          try dsimp only at hj ⊢
          by_cases hjl : 64 * j < g.L.length
          · have en : (64 * (j : Int)).toNat = 64 * j := by omega
            have en2 : (64 * (j : Int) + 64).toNat - 64 * j = 64 := by omega
            rcases hlk j with hq | hq
            · have hqq : ¬ ((g.L.drop (64 * j)).take 64 ≠ (f.L.drop (64 * j)).take 64) := fun q => q hq
              repeat' (first
                | ((with_reducible refine Side.intro ?_) <;> (first
                | omega
                | (simp only [bs_length, List.length_append, List.length_cons, List.length_nil, List.length_take, List.length_drop, List.length_set, List.length_replicate]; omega)
                ))
                | ((conv => whnf) <;> (first
                | (with_reducible refine and_same ?_)
                | (with_reducible refine and_side ?_ ?_)
                | ((with_reducible apply Br.yes) ; (focus omega))
                | ((with_reducible apply blkAt_step) ; (focus (first
                | ((repeat (first
                | assumption
                )); done)
                )) ; (focus (first | rfl | assumption | omega)) ; (focus (first | rfl | assumption)) ; (try dsimp only))
                | ((with_reducible apply lenR_own) ; (focus assumption))
                | (with_reducible refine SliceW.of ?_)
                | (with_reducible refine rowsR_rsl ?_)
                ))
                )
              all_goals (conv => whnf)
              all_goals (try dsimp only)
              rw [en, en2, show 0 + 64 * j = 64 * j from Nat.zero_add _]
              refine bytesR_intro (rows_bs (by omega)) ?_
              repeat' (first
                | ((with_reducible refine Side.intro ?_) <;> (first
                | omega
                | (simp only [bs_length, List.length_append, List.length_cons, List.length_nil, List.length_take, List.length_drop, List.length_set, List.length_replicate]; omega)
                ))
                | ((conv => whnf) <;> (first
                | (with_reducible refine and_same ?_)
                | (with_reducible refine and_side ?_ ?_)
                | ((with_reducible apply Br.yes) ; (focus omega))
                | ((with_reducible apply blkAt_step) ; (focus (first
                | ((repeat (first
                | assumption
                )); done)
                )) ; (focus (first | rfl | assumption | omega)) ; (focus (first | rfl | assumption)) ; (try dsimp only))
                | (with_reducible refine SliceW.of ?_)
                | (with_reducible refine rowsR_rsl ?_)
                ))
                )
              all_goals (conv => whnf)
              all_goals (try dsimp only)
              rw [en, en2, show 0 + 64 * j = 64 * j from Nat.zero_add _]
              refine bytesR_intro (rows_bs (by omega)) ?_
              repeat' (first
                | ((conv => whnf) <;> (first
                | (with_reducible refine and_same ?_)
                | ((with_reducible apply Br.yes) ; (focus omega))
                | ((with_reducible apply Br.no) ; (focus omega))
                ))
                )
              all_goals (conv => whnf)
              all_goals (try dsimp only)
              exact ⟨j + 1, by simp [Fr.upd, Fr.pick]; omega, rfl, by omega, by omega⟩
            · have hqq : ¬ ((g.L.drop (64 * j)).take 64 ≠ (f.S.drop (64 * j)).take 64) := fun q => q hq
              repeat' (first
                | ((with_reducible refine Side.intro ?_) <;> (first
                | omega
                | (simp only [bs_length, List.length_append, List.length_cons, List.length_nil, List.length_take, List.length_drop, List.length_set, List.length_replicate]; omega)
                ))
                | ((conv => whnf) <;> (first
                | (with_reducible refine and_same ?_)
                | (with_reducible refine and_side ?_ ?_)
                | ((with_reducible apply Br.yes) ; (focus omega))
                | ((with_reducible apply blkAt_step) ; (focus (first
                | ((repeat (first
                | assumption
                )); done)
                )) ; (focus (first | rfl | assumption | omega)) ; (focus (first | rfl | assumption)) ; (try dsimp only))
                | ((with_reducible apply lenR_own) ; (focus assumption))
                | (with_reducible refine SliceW.of ?_)
                | (with_reducible refine rowsR_rsl ?_)
                ))
                )
              all_goals (conv => whnf)
              all_goals (try dsimp only)
              rw [en, en2, show 0 + 64 * j = 64 * j from Nat.zero_add _]
              refine bytesR_intro (rows_bs (by omega)) ?_
              repeat' (first
                | ((with_reducible refine Side.intro ?_) <;> (first
                | omega
                | (simp only [bs_length, List.length_append, List.length_cons, List.length_nil, List.length_take, List.length_drop, List.length_set, List.length_replicate]; omega)
                ))
                | ((conv => whnf) <;> (first
                | (with_reducible refine and_same ?_)
                | (with_reducible refine and_side ?_ ?_)
                | ((with_reducible apply Br.yes) ; (focus omega))
                | ((with_reducible apply blkAt_step) ; (focus (first
                | ((repeat (first
                | assumption
                )); done)
                )) ; (focus (first | rfl | assumption | omega)) ; (focus (first | rfl | assumption)) ; (try dsimp only))
                | (with_reducible refine SliceW.of ?_)
                | (with_reducible refine rowsR_rsl ?_)
                ))
                )
              all_goals (conv => whnf)
              all_goals (try dsimp only)
              rw [en, en2, show 0 + 64 * j = 64 * j from Nat.zero_add _]
              refine bytesR_intro (rows_bs (by omega)) ?_
              repeat' (first
                | ((with_reducible refine Side.intro ?_) <;> (first
                | omega
                | (simp only [bs_length, List.length_append, List.length_cons, List.length_nil, List.length_take, List.length_drop, List.length_set, List.length_replicate]; omega)
                ))
                | ((conv => whnf) <;> (first
                | (with_reducible refine and_same ?_)
                | (with_reducible refine and_side ?_ ?_)
                | ((with_reducible apply Br.yes) ; (focus omega))
                | (with_reducible refine Br.mk (fun _ => ?_) (fun _ => ?_))
                | ((with_reducible apply blkAt_step) ; (focus (first
                | ((repeat (first
                | assumption
                )); done)
                )) ; (focus (first | rfl | assumption | omega)) ; (focus (first | rfl | assumption)) ; (try dsimp only))
                | (with_reducible refine SliceW.of ?_)
                | (with_reducible refine rowsR_rsl ?_)
                ))
                )
              all_goals (conv => whnf)
              all_goals (try dsimp only)
              · rw [en, en2, show 0 + 64 * j = 64 * j from Nat.zero_add _]
                refine bytesR_intro (rows_bs (by omega)) ?_
                repeat' (first
                  | ((conv => whnf) <;> (first
                  | (with_reducible refine and_same ?_)
                  | ((with_reducible apply Br.yes) ; (focus omega))
                  | ((with_reducible apply Br.no) ; (focus omega))
                  ))
                  )
                all_goals (conv => whnf)
                all_goals (try dsimp only)
                exact ⟨j + 1, by simp [Fr.upd, Fr.pick]; omega, rfl, by omega, by omega⟩
              · exact ⟨j + 1, by simp [Fr.upd, Fr.pick]; omega, rfl, by omega, by omega⟩
          · repeat' (first
              | ((with_reducible refine Side.intro ?_) <;> (first
              | (simp only [List.append_nil, List.nil_append, List.map_nil]; first | exact List.nodup_nil | exact nodup_bid1 _ | exact nodup_bid2 (by assumption))
              | ((first | refine fresh_tup ?_ | skip); (repeat (first |  exact FreshA.sl _ _ FreshA_bs | exact FreshA.sl _ _ FreshA_is | exact FreshA.nils | exact FreshA.nilp | exact FreshA.int _ _ | exact FreshA.bool _ | exact FreshA.str _ | exact fresh_nil | refine fresh_cons ?_ ?_ | with_reducible refine fresh_aggR ?_ | with_reducible refine fresh_agg ?_ | with_reducible exact fresh_nilA | with_reducible refine fresh_consA ?_ ?_)); done)
              ))
              | ((conv => whnf) <;> (first
              | (with_reducible refine and_same ?_)
              | (with_reducible refine and_side ?_ ?_)
              | ((with_reducible apply Br.no) ; (focus omega))
              | ((with_reducible apply lenR_own) ; (focus assumption))
              | (with_reducible refine NOut.lit ?_)
              ))
              )
            all_goals (conv => whnf)
            all_goals (try dsimp only)
            exact ret_bool rfl
  · intro hG σ2 hg2
    repeat' (first
      | ((with_reducible refine Side.intro ?_) <;> (first
      | (simp only [List.append_nil, List.nil_append, List.map_nil]; first | exact List.nodup_nil | exact nodup_bid1 _ | exact nodup_bid2 (by assumption))
      | ((first | refine fresh_tup ?_ | skip); (repeat (first |  exact FreshA.sl _ _ FreshA_bs | exact FreshA.sl _ _ FreshA_is | exact FreshA.nils | exact FreshA.nilp | exact FreshA.int _ _ | exact FreshA.bool _ | exact FreshA.str _ | exact fresh_nil | refine fresh_cons ?_ ?_ | with_reducible refine fresh_aggR ?_ | with_reducible refine fresh_agg ?_ | with_reducible exact fresh_nilA | with_reducible refine fresh_consA ?_ ?_)); done)
      ))
      | ((conv => whnf) <;> (first
      | (with_reducible refine and_same ?_)
      | (with_reducible refine and_side ?_ ?_)
      | (with_reducible refine Br.yes rfl ?_)
      | ((with_reducible apply Br.yes) ; (focus omega))
      | (with_reducible refine NOut.lit ?_)
      ))
      )
    all_goals (conv => whnf)
    all_goals (try dsimp only)
    exact ret_bool rfl
end Go.Proofs.Ythakanioekmhbaa
