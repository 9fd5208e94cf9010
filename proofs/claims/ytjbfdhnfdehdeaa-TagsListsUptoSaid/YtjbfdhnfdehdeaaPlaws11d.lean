import Derived.Test.YtjbfdhnfdehdeaaPlaws11
namespace Go.Proofs.Ytjbfdhnfdehdeaa
open Go Go.Proofs.Ytjbfdhnfdehdeaa.V
set_option maxRecDepth 20000
attribute [local irreducible] CallS AOK AOKn ALoop Side Ref.ok
attribute [local irreducible] rowI
theorem lw_mono {a b : Int} (h : a ≤ b) : lw a ≤ lw b := by
  unfold lw
  repeat' split
  all_goals omega
theorem lsV_bd (s : Int) : 0 ≤ lsV s ∧ lsV s < 7 := by
  have := lw_lt s
  unfold lsV
  split <;> omega
theorem hdsL_length (G : List (Int × Int)) : (hdsL G).length = 7 := by simp [hdsL]
theorem hdsL_get {G : List (Int × Int)} {c : Nat} (h : c < 7) : (hdsL G)[c]? = some (nxL c G) := by simp [hdsL, List.getElem?_range h]
theorem hdsL_snoc {G : List (Int × Int)} {g : Int × Int} (hG : ∀ x, x ∈ G → 0 ≤ x.1) : hdsL (G ++ [g]) = if nxL (lw g.2) G = 0 then (hdsL G).set (lw g.2) (g.1 + 1) else hdsL G := by
  have pos : ∀ c, (∃ x, x ∈ G ∧ lw x.2 = c) → nxL c G ≠ 0 := by
    rintro c ⟨x, hx, hc⟩
    unfold nxL
    cases hf : G.find? (fun g => lw g.2 == c) with
    | none => exact absurd (List.find?_eq_none.1 hf x hx) (by simpa using hc)
    | some y =>
      have := hG y (List.mem_of_find?_eq_some hf)
      dsimp only
      omega
  have zero : ∀ c, ¬ (∃ x, x ∈ G ∧ lw x.2 = c) → nxL c G = 0 := fun c h => nxL_none fun y hy he => h ⟨y, hy, he⟩
  have hc7 := lw_lt g.2
  have l1 := hdsL_length (G ++ [g])
  have l2 := hdsL_length G
  by_cases h : nxL (lw g.2) G = 0
  · rw [if_pos h]
    apply List.ext_getElem?
    intro c
    by_cases hc : c < 7
    · rw [hdsL_get hc, nxL_append]
      by_cases e : lw g.2 = c
      · subst e
        rw [if_neg (fun q => pos _ q h), if_pos rfl, List.getElem?_set_self (by omega)]
      · rw [List.getElem?_set_ne e, hdsL_get hc]
        split
        · rfl
        · rename_i q
          rw [zero c q]
    · rw [List.getElem?_eq_none (by omega), List.getElem?_eq_none (by rw [List.length_set]; omega)]
  · rw [if_neg h]
    apply List.ext_getElem?
    intro c
    by_cases hc : c < 7
    · rw [hdsL_get hc, hdsL_get hc, nxL_append]
      split
      · rfl
      · rename_i q
        by_cases e : lw g.2 = c
        · subst e
          exact absurd (zero _ q) h
        · rw [if_neg e, zero c q]
    · rw [List.getElem?_eq_none (by omega), List.getElem?_eq_none (by omega)]
theorem clP_ge {to : Int} : ∀ {L : List (Int × Int)} {at' : Int}, sOk to at' L = true → ∀ p, p ∈ clP at' L → at' ≤ p.1
  | [], at', h, p, hp => by simp [clP] at hp
  | p0 :: r, at', h, p, hp => by
    simp only [sOk, Bool.and_eq_true, sC, decide_eq_true_eq] at h
    simp only [clP, List.mem_cons] at hp
    rcases hp with rfl | hp
    · exact Int.le_refl _
    · have := clP_ge h.2 p hp
      omega
theorem gpF_mem {M : List (Int × Int)} {x : Int × Int} (h : x ∈ gpF M) : ∃ p, p ∈ M ∧ p.1 = x.1 := by
  simp only [gpF, List.mem_filterMap] at h
  obtain ⟨p, hp, he⟩ := h
  split at he
  · simp only [Option.some.injEq] at he
    exact ⟨p, hp, by rw [← he]⟩
  · cases he
set_option maxHeartbeats 4000000 in
theorem TagsLists_ok (fr to : Int) (U : List (Int × Int × Int)) (D : List (List UInt8)) (a b : Int) (hU : U.length ≤ 4611686018) (hD : D.length ≤ 4611686018) (hd : ∀ d, d ∈ D → d.length ≤ 4611686018) : AOKn Try.prog F.joistlaw11_TagsLists [.int .i64 fr, .int .i64 to, .sl 3 (bk U) false, .sl 1 (dat D) false, .int .i64 a, .int .i64 b] fun y => y = .bool true := by
  have hln := bk_length U
  have hDn := dat_length D
  refine AOKn.by_steps mixed fc_joistlaw11_TagsLists_ok (by simp [fc_joistlaw11_TagsLists]) ?_
  skip
  all_goals (conv => whnf)
  all_goals (try dsimp only)
  refine small_call fun H1 hg1 => ?_
  skip
  all_goals (conv => whnf)
  all_goals (try dsimp only)
  refine few_call D hD hd (Looks.dat _ _ _) fun H2 hg2 => ?_
  cases hf : fewB D
  · repeat' (first
      | ((with_reducible refine Side.intro ?_) <;> (first
      | (simp only [List.append_nil, List.nil_append, List.map_nil]; first | exact List.nodup_nil | exact nodup_bid1 _ | exact nodup_bid2 (by assumption))
      | ((first | refine fresh_tup ?_ | skip); (repeat (first |  exact FreshA.sl _ _ FreshA_bs | exact FreshA.sl _ _ FreshA_is | exact FreshA.nils | exact FreshA.nilp | exact FreshA.int _ _ | exact FreshA.bool _ | exact FreshA.str _ | exact fresh_nil | refine fresh_cons ?_ ?_ | with_reducible refine fresh_aggR ?_ | with_reducible refine fresh_agg ?_ | with_reducible exact fresh_nilA | with_reducible refine fresh_consA ?_ ?_)); done)
      ))
      | ((conv => whnf) <;> (first
      | (with_reducible refine and_side ?_ ?_)
      | (with_reducible refine NOut.lit ?_)
      ))
      )
    all_goals (conv => whnf)
    all_goals (try dsimp only)
    exact ret_bool rfl
  · by_cases h60 : U.length ≤ 60
    · have hf2 : D.length ≤ 60 := by
        simp only [fewB, Bool.and_eq_true, decide_eq_true_eq] at hf
        exact hf.2
      repeat' (first
        | ((conv => whnf) <;> (first
        | (with_reducible refine and_same ?_)
        | ((with_reducible apply Br.no) ; (focus omega))
        | (with_reducible refine lenR_sl ?_)
        ))
        )
      all_goals (conv => whnf)
      all_goals (try dsimp only)
      refine List_call a fun H3 hg3 => ?_
      skip
      all_goals (conv => whnf)
      all_goals (try dsimp only)
      refine List_call b fun H4 hg4 => ?_
      have la := lsV_bd a
      have lb := lsV_bd b
      have hmono : 4 ≤ a → a ≤ b → lsV a ≤ lsV b := fun h1 h2 => by
        have := lw_mono h2
        rw [lsV, lsV, if_pos h1, if_pos (by omega)]; omega
      have hla : lsB a = decide (4 ≤ a) := rfl
      have hlb : lsB b = decide (4 ≤ b) := rfl
      generalize lsV a = va at *
      generalize lsV b = vb at *
      have hff : ¬ (false ≠ false) := fun h => h rfl
      have htt : ¬ (true ≠ true) := fun h => h rfl
      cases qa : decide (4 ≤ a) <;> cases qb : decide (4 ≤ b)
      all_goals
        rw [qa] at hla
        rw [qb] at hlb
        rw [hla, hlb]
        simp only [decide_eq_true_eq, decide_eq_false_iff_not] at qa qb
        repeat' (first
          | ((conv => whnf) <;> (first
          | (with_reducible refine and_same ?_)
          | ((with_reducible apply Br.yes) ; (focus omega))
          | ((with_reducible apply Br.no) ; (focus omega))
          | (with_reducible refine Br.mk (fun _ => ?_) (fun _ => ?_))
          ))
          )
        all_goals (conv => whnf)
        all_goals (try dsimp only)
      all_goals first
        | omega
        | skip
      all_goals
        refine TWrite_call fr to U D (by omega) (by omega) hd (Looks.bk _ _ _) (Looks.dat _ _ _) fun H5 y h hg5 hy hh hyn hhn hyh => ?_
        clear hla hlb hmono la lb
        cases hr : rT fr to U D
        · rw [show twE fr to U D = 1 from by rw [twE, hr]; rfl]
          rw [show twH fr to U D = [] from by rw [twH, hr]; rfl] at hh
          have hh0 : Own H5 1 h (is []) := hh
          have hl0 : (is []).length = 0 := rfl
          clear hh
          repeat' (first
            | ((with_reducible refine Side.intro ?_) <;> (first
            | (simp only [List.append_nil, List.nil_append, List.map_nil]; first | exact List.nodup_nil | exact nodup_bid1 _ | exact nodup_bid2 (by assumption))
            | ((first | refine fresh_tup ?_ | skip); (repeat (first |  exact FreshA.sl _ _ FreshA_bs | exact FreshA.sl _ _ FreshA_is | exact FreshA.nils | exact FreshA.nilp | exact FreshA.int _ _ | exact FreshA.bool _ | exact FreshA.str _ | exact fresh_nil | refine fresh_cons ?_ ?_ | with_reducible refine fresh_aggR ?_ | with_reducible refine fresh_agg ?_ | with_reducible exact fresh_nilA | with_reducible refine fresh_consA ?_ ?_)); done)
            ))
            | ((conv => whnf) <;> (first
            | (with_reducible refine and_same ?_)
            | (with_reducible refine and_side ?_ ?_)
            | (with_reducible refine Br.yes rfl ?_)
            | ((with_reducible apply Br.yes) ; (focus omega))
            | ((with_reducible apply lenR_own) ; (focus assumption))
            | (with_reducible refine NOut.lit ?_)
            ))
            )
          all_goals (conv => whnf)
          all_goals (try dsimp only)
          exact ret_bool rfl
        · rw [show twE fr to U D = 0 from by rw [twE, hr]; rfl]
          have T := rT_tg hr
          rw [show twH fr to U D = hdsL (gp to fr U) from by rw [twH, hr, if_pos rfl], ← gp_eq] at hh
          obtain ⟨t1, t2, t3, t4, t5, t6, t7, t8⟩ := id T
          have hsl := spo_length U
          have hhl : (is (hdsL (gaps fr to (spo U)))).length = 7 := by rw [is_length, hdsL_length]
          have hgU : ∀ (k : Nat) (u : Int × Int × Int), U[k]? = some u → (spo U)[k]? = some (u.1, u.2.1) := fun k u hu => by simp [spo, hu]
          generalize hL : spo U = L at *
          have hmax : ∀ x, x ∈ cls fr to L → fr ≤ x.1 := fun x hx => by
            rcases List.mem_append.1 hx with q | q
            · exact clP_ge t6 x q
            · simp only [List.mem_singleton] at q
              rw [q]
              exact (endp_bd t6 t2).1
          repeat' (first
            | ((conv => whnf) <;> (first
            | (with_reducible refine and_same ?_)
            | ((with_reducible apply Br.no) ; (focus omega))
            | ((with_reducible apply lenR_own) ; (focus assumption))
            ))
            )
          all_goals (conv => whnf)
          all_goals (try dsimp only)
          refine loop_at (α := Nat × AH) (fun a => [(22, .int .i64 (endp fr (L.take a.1))), (24, .int .i64 a.1)]) (fun a => a.2) (fun a => a.1 ≤ L.length + 1 ∧ a.2[H5.length]? = some { sz := 7, els := [rowI (hdsL (gpF (if a.1 ≤ L.length then clP fr (L.take a.1) else cls fr to L)))], gen := 0, wr := true, pure := true } ∧ Own a.2 1 h (is (hdsL (gaps fr to L)))) (fun a => L.length + 1 - a.1) (0, _) ⟨Nat.zero_le _, by dsimp only; rw [if_pos (Nat.zero_le _), show hdsL (gpF (clP fr (L.take 0))) = List.replicate 7 0 from rfl, rowI_nil]; exact get_new, hh.keepN (by (repeat (first
                | exact Gr.refl _ _
                | refine Gr.addN ?_ _
                )))⟩ rfl rfl ?_
          have hhb : h.bid ≠ some H5.length := not_new hh
          clear hh
          rintro ⟨i, σ⟩ ⟨hi, hb, hh⟩
          dsimp only at hi hb hh ⊢
          have hep := endp_take t6 t2 i
          have hlb := (List.getElem?_eq_some_iff.1 hb).1
          by_cases hlt : i ≤ L.length
          · rw [if_pos hlt] at hb
            have hem := endp_mod (sOk_take t6 i) t4
            have hGp : ∀ x, x ∈ gpF (clP fr (L.take i)) → 0 ≤ x.1 := fun x hx => by
              obtain ⟨p, hp, he⟩ := gpF_mem hx
              have := clP_ge (sOk_take t6 i) p hp
              omega
            -- what the round adds
            have key : ∃ e nx : Int, endp fr (L.take i) ≤ e ∧ e ≤ to ∧ (e - endp fr (L.take i)) % 4 = 0 ∧ ((i < L.length ∧ ∃ u, U[i]? = some u ∧ e = u.1 ∧ nx = u.1 + u.2.1 ∧ 4 ≤ u.2.1 ∧ u.2.1 ≤ to - u.1) ∨ (i = L.length ∧ e = to ∧ nx = endp fr (L.take i))) ∧ endp fr (L.take (i + 1)) = nx ∧ gpF (if i + 1 ≤ L.length then clP fr (L.take (i + 1)) else cls fr to L) = gpF (clP fr (L.take i)) ++ gpF [(endp fr (L.take i), e)] := by
              by_cases hil : i < L.length
              · obtain ⟨u, hu, hu'⟩ := getN (l := U) (k := i) (by omega)
                have hLi := hgU i u hu'
                have hsc := sC_at t6 hLi
                simp only [sC, decide_eq_true_eq] at hsc
                have et : L.take (i + 1) = L.take i ++ [(u.1, u.2.1)] := by rw [List.take_add_one, hLi]; rfl
                refine ⟨u.1, u.1 + u.2.1, hsc.1, hsc.2.1, by omega, .inl ⟨hil, u, hu', rfl, rfl, hsc.2.2.1, hsc.2.2.2.1⟩, by rw [et, endp_append], ?_⟩
                rw [if_pos (by omega), et, clP_append, gpF_append]
              · have e2 : i = L.length := by omega
                subst e2
                have et : L.take (L.length + 1) = L := List.take_of_length_le (by omega)
                refine ⟨to, endp fr (L.take L.length), hep.2, Int.le_refl _, by omega, .inr ⟨rfl, rfl, rfl⟩, by rw [et, List.take_length], ?_⟩
                rw [if_neg (by omega), cls, gpF_append, List.take_length]
            obtain ⟨e, nx, k1, k2, k3, k4, k5, k6⟩ := key
            have hcl : (clP fr (L.take i)).length ≤ 4611686018 := by rw [clP_len, List.length_take]; omega
            generalize hat : endp fr (L.take i) = at' at *
            generalize hG : gpF (clP fr (L.take i)) = G at *
            by_cases hgap : at' < e
            · have e7 : gpF [(at', e)] = [(at', e - at')] := by rw [gpF_one, if_pos hgap]
              rw [e7, ] at k6
              have hsn := hdsL_snoc (g := (at', e - at')) hGp
              dsimp only at hsn
              have hc7 := lw_lt (e - at')
              have hls := hdsL_get (G := G) hc7
              have hls' : (hdsL G)[((lw (e - at') : Nat) : Int).toNat]? = some (nxL (lw (e - at')) G) := by rw [Int.toNat_natCast]; exact hls
              have hlsl := hdsL_length G
              have hrl := rowI_length (hdsL G)
              have e5 : lay (rowI (hdsL G)) (0 + ((lw (e - at') : Nat) : Int).toNat * 1) (AV.int IntKind.i64 (at' + 1)).cells = rowI ((hdsL G).set (lw (e - at')) (at' + 1)) := by
                rw [show (AV.int IntKind.i64 (at' + 1)).cells = [.int .i64 (at' + 1)] from rfl, rowI_lay (by rw [hlsl]; omega), Int.toNat_natCast]
              have e6 : 0 + ((lw (e - at') : Nat) : Int).toNat * 1 + (AV.int IntKind.i64 (at' + 1)).cells.length ≤ (rowI (hdsL G)).length := by rw [hrl, hlsl]; show 0 + ((lw (e - at') : Nat) : Int).toNat * 1 + 1 ≤ 7; omega
              have hlv : lsV (e - at') = ((lw (e - at') : Nat) : Int) := by rw [lsV, if_pos (by omega)]
              have hlB : lsB (e - at') = true := by rw [lsB, decide_eq_true (by omega)]
              rcases k4 with ⟨hil, u, hu', rfl, rfl, hu4, hu5⟩ | ⟨rfl, rfl, hnx⟩
              · have hu : U[((i : Nat) : Int).toNat]? = some u := by rw [Int.toNat_natCast]; exact hu'
                by_cases hz : nxL (lw (u.1 - at')) G = 0
                · rw [if_pos hz] at hsn
                  rw [hz] at hls'
                  repeat' (first
                    | ((with_reducible refine Side.intro ?_) <;> (first
                    | omega
                    ))
                    | ((conv => whnf) <;> (first
                    | (with_reducible refine and_same ?_)
                    | ((with_reducible apply Br.yes) ; (focus omega))
                    | ((with_reducible apply nthR_bk) ; (focus assumption))
                    | (with_reducible refine ia_sl ?_ ?_)
                    | (with_reducible refine lenR_sl ?_)
                    ))
                    )
                  all_goals (conv => whnf)
                  all_goals (try dsimp only)
                  refine List_call (u.1 - at') fun H6 hg6 => ?_
                  rw [hlv, hlB]
                  replace hb := hg6.2 H5.length _ (by (first
                        | ((repeat (first
                        | assumption
                        )); done)
                        )) (by simp)
                  replace hh := hh.keepN hg6
                  repeat' (first
                    | ((with_reducible refine Side.intro ?_) <;> (first
                    | omega
                    ))
                    | ((conv => whnf) <;> (first
                    | (with_reducible refine and_same ?_)
                    | (with_reducible refine and_side ?_ ?_)
                    | ((with_reducible apply Br.no) ; (focus omega))
                    | ((with_reducible apply blkAt_intro) ; (focus (first
                    | ((repeat (first
                    | assumption
                    )); done)
                    )) ; (focus (first | rfl | assumption | omega)) ; (try dsimp only))
                    ))
                    )
                  all_goals (conv => whnf)
                  all_goals (try dsimp only)
                  refine nthK_intro (rowI_get hls') ?_
                  repeat' (first
                    | ((with_reducible refine Side.intro ?_) <;> (first
                    | omega
                    | exact rfl
                    ))
                    | ((conv => whnf) <;> (first
                    | (with_reducible refine and_same ?_)
                    | (with_reducible refine and_side ?_ ?_)
                    | (with_reducible refine Br.yes rfl ?_)
                    | ((with_reducible apply Br.yes) ; (focus omega))
                    | ((with_reducible apply blkAt_intro) ; (focus (first
                    | ((repeat (first
                    | assumption
                    )); done)
                    )) ; (focus (first | rfl | assumption | omega)) ; (try dsimp only))
                    ))
                    )
                  all_goals (conv => whnf)
                  all_goals (try dsimp only)
                  rw [layK_eq, e5]
                  repeat' (first
                    | ((with_reducible refine Side.intro ?_) <;> (first
                    | omega
                    ))
                    | ((conv => whnf) <;> (first
                    | (with_reducible refine and_same ?_)
                    | ((with_reducible apply Br.yes) ; (focus omega))
                    | ((with_reducible apply nthR_bk) ; (focus assumption))
                    | (with_reducible refine ia_sl ?_ ?_)
                    | (with_reducible refine lenR_sl ?_)
                    ))
                    )
                  all_goals (conv => whnf)
                  all_goals (try dsimp only)
                  refine ⟨(i + 1, _), by dsimp only; rw [k5]; rfl, rfl, ⟨by dsimp only; omega, by dsimp only; rw [k6, hsn]; exact get_set hb, Own.keep (Gr.set _ _ _) hh (.inr fun e => hhb e.symm)⟩, by dsimp only; omega⟩
                · rw [if_neg hz] at hsn
                  repeat' (first
                    | ((with_reducible refine Side.intro ?_) <;> (first
                    | omega
                    ))
                    | ((conv => whnf) <;> (first
                    | (with_reducible refine and_same ?_)
                    | ((with_reducible apply Br.yes) ; (focus omega))
                    | ((with_reducible apply nthR_bk) ; (focus assumption))
                    | (with_reducible refine ia_sl ?_ ?_)
                    | (with_reducible refine lenR_sl ?_)
                    ))
                    )
                  all_goals (conv => whnf)
                  all_goals (try dsimp only)
                  refine List_call (u.1 - at') fun H6 hg6 => ?_
                  rw [hlv, hlB]
                  replace hb := hg6.2 H5.length _ (by (first
                        | ((repeat (first
                        | assumption
                        )); done)
                        )) (by simp)
                  replace hh := hh.keepN hg6
                  repeat' (first
                    | ((with_reducible refine Side.intro ?_) <;> (first
                    | omega
                    ))
                    | ((conv => whnf) <;> (first
                    | (with_reducible refine and_same ?_)
                    | (with_reducible refine and_side ?_ ?_)
                    | ((with_reducible apply Br.no) ; (focus omega))
                    | ((with_reducible apply blkAt_intro) ; (focus (first
                    | ((repeat (first
                    | assumption
                    )); done)
                    )) ; (focus (first | rfl | assumption | omega)) ; (try dsimp only))
                    ))
                    )
                  all_goals (conv => whnf)
                  all_goals (try dsimp only)
                  refine nthK_intro (rowI_get hls') ?_
                  repeat' (first
                    | ((with_reducible refine Side.intro ?_) <;> (first
                    | omega
                    ))
                    | ((conv => whnf) <;> (first
                    | (with_reducible refine and_same ?_)
                    | ((with_reducible apply Br.yes) ; (focus omega))
                    | ((with_reducible apply Br.no) ; (focus omega))
                    | ((with_reducible apply nthR_bk) ; (focus assumption))
                    | (with_reducible refine ia_sl ?_ ?_)
                    | (with_reducible refine lenR_sl ?_)
                    ))
                    )
                  all_goals (conv => whnf)
                  all_goals (try dsimp only)
                  refine ⟨(i + 1, _), by dsimp only; rw [k5]; rfl, rfl, ⟨by dsimp only; omega, by dsimp only; rw [k6, hsn]; exact hb, hh⟩, by dsimp only; omega⟩
              · by_cases hz : nxL (lw (e - at')) G = 0
                · rw [if_pos hz] at hsn
                  rw [hz] at hls'
                  repeat' (first
                    | ((conv => whnf) <;> (first
                    | (with_reducible refine and_same ?_)
                    | ((with_reducible apply Br.yes) ; (focus omega))
                    | ((with_reducible apply Br.no) ; (focus omega))
                    | (with_reducible refine lenR_sl ?_)
                    ))
                    )
                  all_goals (conv => whnf)
                  all_goals (try dsimp only)
                  refine List_call (e - at') fun H6 hg6 => ?_
                  rw [hlv, hlB]
                  replace hb := hg6.2 H5.length _ (by (first
                        | ((repeat (first
                        | assumption
                        )); done)
                        )) (by simp)
                  replace hh := hh.keepN hg6
                  repeat' (first
                    | ((with_reducible refine Side.intro ?_) <;> (first
                    | omega
                    ))
                    | ((conv => whnf) <;> (first
                    | (with_reducible refine and_same ?_)
                    | (with_reducible refine and_side ?_ ?_)
                    | ((with_reducible apply Br.no) ; (focus omega))
                    | ((with_reducible apply blkAt_intro) ; (focus (first
                    | ((repeat (first
                    | assumption
                    )); done)
                    )) ; (focus (first | rfl | assumption | omega)) ; (try dsimp only))
                    ))
                    )
                  all_goals (conv => whnf)
                  all_goals (try dsimp only)
                  refine nthK_intro (rowI_get hls') ?_
                  repeat' (first
                    | ((with_reducible refine Side.intro ?_) <;> (first
                    | omega
                    | exact rfl
                    ))
                    | ((conv => whnf) <;> (first
                    | (with_reducible refine and_same ?_)
                    | (with_reducible refine and_side ?_ ?_)
                    | (with_reducible refine Br.yes rfl ?_)
                    | ((with_reducible apply Br.yes) ; (focus omega))
                    | ((with_reducible apply blkAt_intro) ; (focus (first
                    | ((repeat (first
                    | assumption
                    )); done)
                    )) ; (focus (first | rfl | assumption | omega)) ; (try dsimp only))
                    ))
                    )
                  all_goals (conv => whnf)
                  all_goals (try dsimp only)
                  rw [layK_eq, e5]
                  repeat' (first
                    | ((conv => whnf) <;> (first
                    | (with_reducible refine and_same ?_)
                    | ((with_reducible apply Br.yes) ; (focus omega))
                    | ((with_reducible apply Br.no) ; (focus omega))
                    | (with_reducible refine lenR_sl ?_)
                    ))
                    )
                  all_goals (conv => whnf)
                  all_goals (try dsimp only)
                  refine ⟨(L.length + 1, _), by dsimp only; rw [k5, hnx]; rfl, rfl, ⟨by dsimp only; omega, by dsimp only; rw [k6, hsn]; exact get_set hb, Own.keep (Gr.set _ _ _) hh (.inr fun e => hhb e.symm)⟩, by dsimp only; omega⟩
                · rw [if_neg hz] at hsn
                  repeat' (first
                    | ((conv => whnf) <;> (first
                    | (with_reducible refine and_same ?_)
                    | ((with_reducible apply Br.yes) ; (focus omega))
                    | ((with_reducible apply Br.no) ; (focus omega))
                    | (with_reducible refine lenR_sl ?_)
                    ))
                    )
                  all_goals (conv => whnf)
                  all_goals (try dsimp only)
                  refine List_call (e - at') fun H6 hg6 => ?_
                  rw [hlv, hlB]
                  replace hb := hg6.2 H5.length _ (by (first
                        | ((repeat (first
                        | assumption
                        )); done)
                        )) (by simp)
                  replace hh := hh.keepN hg6
                  repeat' (first
                    | ((with_reducible refine Side.intro ?_) <;> (first
                    | omega
                    ))
                    | ((conv => whnf) <;> (first
                    | (with_reducible refine and_same ?_)
                    | (with_reducible refine and_side ?_ ?_)
                    | ((with_reducible apply Br.no) ; (focus omega))
                    | ((with_reducible apply blkAt_intro) ; (focus (first
                    | ((repeat (first
                    | assumption
                    )); done)
                    )) ; (focus (first | rfl | assumption | omega)) ; (try dsimp only))
                    ))
                    )
                  all_goals (conv => whnf)
                  all_goals (try dsimp only)
                  refine nthK_intro (rowI_get hls') ?_
                  repeat' (first
                    | ((conv => whnf) <;> (first
                    | (with_reducible refine and_same ?_)
                    | ((with_reducible apply Br.yes) ; (focus omega))
                    | ((with_reducible apply Br.no) ; (focus omega))
                    | (with_reducible refine lenR_sl ?_)
                    ))
                    )
                  all_goals (conv => whnf)
                  all_goals (try dsimp only)
                  refine ⟨(L.length + 1, _), by dsimp only; rw [k5, hnx]; rfl, rfl, ⟨by dsimp only; omega, by dsimp only; rw [k6, hsn]; exact hb, hh⟩, by dsimp only; omega⟩
            · have e7 : gpF [(at', e)] = [] := by rw [gpF_one, if_neg hgap]
              rw [e7, List.append_nil] at k6
              rcases k4 with ⟨hil, u, hu', rfl, rfl, hu4, hu5⟩ | ⟨rfl, rfl, hnx⟩
              · have hu : U[((i : Nat) : Int).toNat]? = some u := by rw [Int.toNat_natCast]; exact hu'
                repeat' (first
                  | ((with_reducible refine Side.intro ?_) <;> (first
                  | omega
                  ))
                  | ((conv => whnf) <;> (first
                  | (with_reducible refine and_same ?_)
                  | ((with_reducible apply Br.yes) ; (focus omega))
                  | ((with_reducible apply Br.no) ; (focus omega))
                  | ((with_reducible apply nthR_bk) ; (focus assumption))
                  | (with_reducible refine ia_sl ?_ ?_)
                  | (with_reducible refine lenR_sl ?_)
                  ))
                  )
                all_goals (conv => whnf)
                all_goals (try dsimp only)
                refine ⟨(i + 1, _), by dsimp only; rw [k5]; rfl, rfl, ⟨by dsimp only; omega, by dsimp only; rw [k6]; exact hb, hh⟩, by dsimp only; omega⟩
              · repeat' (first
                  | ((conv => whnf) <;> (first
                  | (with_reducible refine and_same ?_)
                  | ((with_reducible apply Br.yes) ; (focus omega))
                  | ((with_reducible apply Br.no) ; (focus omega))
                  | (with_reducible refine lenR_sl ?_)
                  ))
                  )
                all_goals (conv => whnf)
                all_goals (try dsimp only)
                refine ⟨(L.length + 1, _), by dsimp only; rw [k5, hnx]; rfl, rfl, ⟨by dsimp only; omega, by dsimp only; rw [k6]; exact hb, hh⟩, by dsimp only; omega⟩
          · rw [if_neg hlt] at hb
            have hgg : gpF (cls fr to L) = gaps fr to L := rfl
            rw [hgg] at hb
            generalize gaps fr to L = G at *
            repeat' (first
              | ((conv => whnf) <;> (first
              | (with_reducible refine and_same ?_)
              | ((with_reducible apply Br.no) ; (focus omega))
              | (with_reducible refine lenR_sl ?_)
              ))
              )
            all_goals (conv => whnf)
            all_goals (try dsimp only)
            refine loop_at (α := Nat) (fun a => [(28, .int .i64 a)]) (fun _ => σ) (fun a => a ≤ 7) (fun a => 7 - a) 0 (Nat.zero_le _) rfl rfl ?_
            intro m hm
            by_cases hm7 : m < 7
            · have hls := hdsL_get (G := G) hm7
              have hls' : (hdsL G)[((m : Nat) : Int).toNat]? = some (nxL m G) := by rw [Int.toNat_natCast]; exact hls
              have hcmp : ¬ (nxL m G ≠ nxL m G) := fun h => h rfl
              generalize nxL m G = v at *
              generalize hdsL G = hs at *
              repeat' (first
                | ((with_reducible refine Side.intro ?_) <;> (first
                | omega
                ))
                | ((conv => whnf) <;> (first
                | (with_reducible refine and_same ?_)
                | (with_reducible refine and_side ?_ ?_)
                | ((with_reducible apply Br.yes) ; (focus omega))
                | ((with_reducible apply blkAt_intro) ; (focus (first
                | ((repeat (first
                | assumption
                )); done)
                )) ; (focus (first | rfl | assumption | omega)) ; (try dsimp only))
                | ((with_reducible apply nthR_is1) ; (focus assumption))
                | ((with_reducible apply ia_own) ; (focus assumption))
                | (with_reducible refine nthR_z ?_)
                | ((with_reducible apply nthR_left) ; (focus (first | omega | (simp only [List.length_append, List.length_cons, List.length_nil, List.length_take, List.length_drop, bs_length]; omega))))
                | (with_reducible intro _)
                ))
                )
              all_goals (conv => whnf)
              all_goals (try dsimp only)
              refine nthK_intro (rowI_get hls') ?_
              repeat' (first
                | ((conv => whnf) <;> (first
                | (with_reducible refine and_same ?_)
                | ((with_reducible apply Br.yes) ; (focus omega))
                | ((with_reducible apply Br.no) ; (focus omega))
                ))
                )
              all_goals (conv => whnf)
              all_goals (try dsimp only)
              exact ⟨m + 1, rfl, rfl, by omega, by omega⟩
            · repeat' (first
                | ((with_reducible refine Side.intro ?_) <;> (first
                | (simp only [List.append_nil, List.nil_append, List.map_nil]; first | exact List.nodup_nil | exact nodup_bid1 _ | exact nodup_bid2 (by assumption))
                | ((first | refine fresh_tup ?_ | skip); (repeat (first |  exact FreshA.sl _ _ FreshA_bs | exact FreshA.sl _ _ FreshA_is | exact FreshA.nils | exact FreshA.nilp | exact FreshA.int _ _ | exact FreshA.bool _ | exact FreshA.str _ | exact fresh_nil | refine fresh_cons ?_ ?_ | with_reducible refine fresh_aggR ?_ | with_reducible refine fresh_agg ?_ | with_reducible exact fresh_nilA | with_reducible refine fresh_consA ?_ ?_)); done)
                ))
                | ((conv => whnf) <;> (first
                | (with_reducible refine and_same ?_)
                | (with_reducible refine and_side ?_ ?_)
                | ((with_reducible apply Br.no) ; (focus omega))
                | (with_reducible refine NOut.lit ?_)
                ))
                )
              all_goals (conv => whnf)
              all_goals (try dsimp only)
              exact ret_bool rfl
    · repeat' (first
        | ((with_reducible refine Side.intro ?_) <;> (first
        | (simp only [List.append_nil, List.nil_append, List.map_nil]; first | exact List.nodup_nil | exact nodup_bid1 _ | exact nodup_bid2 (by assumption))
        | ((first | refine fresh_tup ?_ | skip); (repeat (first |  exact FreshA.sl _ _ FreshA_bs | exact FreshA.sl _ _ FreshA_is | exact FreshA.nils | exact FreshA.nilp | exact FreshA.int _ _ | exact FreshA.bool _ | exact FreshA.str _ | exact fresh_nil | refine fresh_cons ?_ ?_ | with_reducible refine fresh_aggR ?_ | with_reducible refine fresh_agg ?_ | with_reducible exact fresh_nilA | with_reducible refine fresh_consA ?_ ?_)); done)
        ))
        | ((conv => whnf) <;> (first
        | (with_reducible refine and_same ?_)
        | (with_reducible refine and_side ?_ ?_)
        | ((with_reducible apply Br.yes) ; (focus omega))
        | (with_reducible refine NOut.lit ?_)
        | (with_reducible refine lenR_sl ?_)
        ))
        )
      all_goals (conv => whnf)
      all_goals (try dsimp only)
      all_goals first
        | omega
        | exact ret_bool rfl
end Go.Proofs.Ytjbfdhnfdehdeaa
