import Derived.Test.YtjbfdhnfdehdeaaPgaps2
namespace Go.Proofs.Ytjbfdhnfdehdeaa
open Go Go.Proofs.Ytjbfdhnfdehdeaa.V
set_option maxRecDepth 20000
attribute [local irreducible] CallS AOK AOKn ALoop Side Ref.ok
theorem ref10_Right_ok (fr to : Int) (L : List (Int × Int)) (hL : L.length ≤ 4611686) : AOKn Try.prog F.joistref10_Right [.int .i64 fr, .int .i64 to, .sl 2 (sp L) false] fun y => y = .bool (rG fr to L) := by
  have hn := sp_length L
  refine AOKn.by_steps mixed fc_joistref10_Right_ok (by simp [fc_joistref10_Right]) ?_
  by_cases hb : bG fr to = true
  · obtain ⟨b1, b2, b3, b4, b5⟩ := bG_iff.1 hb
    repeat' (first
      | ((with_reducible refine Side.intro ?_) <;> (first
      | omega
      ))
      | ((conv => whnf) <;> (first
      | (with_reducible refine and_same ?_)
      | (with_reducible refine and_side ?_ ?_)
      | ((with_reducible apply Br.yes) ; (focus omega))
      | ((with_reducible apply Br.no) ; (focus omega))
      ))
      )
    all_goals (conv => whnf)
    all_goals (try dsimp only)
    refine loop_at (α := Nat × AH) (fun a => [(7, .int .i64 (endp fr (L.take a.1))), (8, .int .i64 a.1)]) (fun a => a.2) (fun a => a.1 ≤ L.length ∧ sOk to fr (L.take a.1) = true) (fun a => L.length - a.1) (0, _) ⟨Nat.zero_le _, rfl⟩ rfl rfl ?_
    rintro ⟨i, σ⟩ ⟨hi, hok⟩
    dsimp only at hi hok ⊢
    have hep := endp_bd hok b2
    by_cases hlt : i < L.length
    · obtain ⟨p, hp, hp'⟩ := getN hlt
      have et : L.take (i + 1) = L.take i ++ [p] := by rw [List.take_add_one, hp']; rfl
      have e1 : sOk to fr (L.take (i + 1)) = sC to (endp fr (L.take i)) p := by rw [et, sOk_append, hok, Bool.true_and]
      have e2 : endp fr (L.take (i + 1)) = p.1 + p.2 := by rw [et, endp_append]
      have hno : sC to (endp fr (L.take i)) p = false → rG fr to L = false := fun q => by rw [rG, sOk_false (i := i + 1) (by rw [e1, q]), Bool.and_false]
      generalize endp fr (L.take i) = at' at *
      by_cases hsc : sC to at' p = true
      · have hsd := hsc
        simp only [sC, decide_eq_true_eq] at hsd
        repeat' (first
          | ((with_reducible refine Side.intro ?_) <;> (first
          | omega
          | exact Nat.le_of_ble_eq_true rfl
          | exact rfl
          ))
          | ((conv => whnf) <;> (first
          | (with_reducible refine and_same ?_)
          | (with_reducible refine and_side ?_ ?_)
          | ((with_reducible apply Br.yes) ; (focus omega))
          | ((with_reducible apply Br.no) ; (focus omega))
          | ((with_reducible apply blkAt_intro) ; (focus (first
          | ((repeat (first
          | exact get_new
          | exact get_set get_new
          )); done)
          )) ; (focus (first | rfl | assumption | omega)) ; (try dsimp only))
          | ((with_reducible apply nthR_sp) ; (focus assumption))
          | (with_reducible refine ia_sl ?_ ?_)
          | (with_reducible refine lenR_sl ?_)
          ))
          )
        all_goals (conv => whnf)
        all_goals (try dsimp only)
        refine ⟨(i + 1, _), by dsimp only; rw [e2]; rfl, rfl, ⟨by dsimp only; omega, by dsimp only; rw [e1, hsc]⟩, by dsimp only; omega⟩
      · have hse : sC to at' p = false := by cases q : sC to at' p; rfl; exact absurd q hsc
        have hsd := hse
        simp only [sC, decide_eq_false_iff_not] at hsd
        rw [hno hse]
        repeat' (first
          | ((with_reducible refine Side.intro ?_) <;> (first
          | omega
          | exact Nat.le_of_ble_eq_true rfl
          | (simp only [List.append_nil, List.nil_append, List.map_nil]; first | exact List.nodup_nil | exact nodup_bid1 _ | exact nodup_bid2 (by assumption))
          | ((first | refine fresh_tup ?_ | skip); (repeat (first | exact fresh_sp _ |  exact FreshA.sl _ _ FreshA_bs | exact FreshA.sl _ _ FreshA_is | exact FreshA.nils | exact FreshA.nilp | exact FreshA.int _ _ | exact FreshA.bool _ | exact FreshA.str _ | exact fresh_nil | refine fresh_cons ?_ ?_ | with_reducible refine fresh_aggR ?_ | with_reducible refine fresh_agg ?_ | with_reducible exact fresh_nilA | with_reducible refine fresh_consA ?_ ?_)); done)
          | exact rfl
          ))
          | ((conv => whnf) <;> (first
          | (with_reducible refine and_same ?_)
          | (with_reducible refine and_side ?_ ?_)
          | ((with_reducible apply Br.yes) ; (focus omega))
          | (with_reducible refine Br.mk (fun _ => ?_) (fun _ => ?_))
          | ((with_reducible apply blkAt_intro) ; (focus (first
          | ((repeat (first
          | exact get_new
          | exact get_set get_new
          )); done)
          )) ; (focus (first | rfl | assumption | omega)) ; (try dsimp only))
          | ((with_reducible apply nthR_sp) ; (focus assumption))
          | (with_reducible refine ia_sl ?_ ?_)
          | (with_reducible refine NOut.lit ?_)
          | (with_reducible refine lenR_sl ?_)
          ))
          )
        all_goals (conv => whnf)
        all_goals (try dsimp only)
        all_goals first
          | omega
          | exact ret_bool rfl
    · have hil : i = L.length := by omega
      subst hil
      rw [List.take_length] at hok
      rw [rG, hb, hok]
      repeat' (first
        | ((with_reducible refine Side.intro ?_) <;> (first
        | (simp only [List.append_nil, List.nil_append, List.map_nil]; first | exact List.nodup_nil | exact nodup_bid1 _ | exact nodup_bid2 (by assumption))
        | ((first | refine fresh_tup ?_ | skip); (repeat (first | exact fresh_sp _ |  exact FreshA.sl _ _ FreshA_bs | exact FreshA.sl _ _ FreshA_is | exact FreshA.nils | exact FreshA.nilp | exact FreshA.int _ _ | exact FreshA.bool _ | exact FreshA.str _ | exact fresh_nil | refine fresh_cons ?_ ?_ | with_reducible refine fresh_aggR ?_ | with_reducible refine fresh_agg ?_ | with_reducible exact fresh_nilA | with_reducible refine fresh_consA ?_ ?_)); done)
        ))
        | ((conv => whnf) <;> (first
        | (with_reducible refine and_same ?_)
        | (with_reducible refine and_side ?_ ?_)
        | ((with_reducible apply Br.no) ; (focus omega))
        | (with_reducible refine NOut.lit ?_)
        | (with_reducible refine lenR_sl ?_)
        ))
        )
      all_goals (conv => whnf)
      all_goals (try dsimp only)
      exact ret_bool rfl
  · have hno : rG fr to L = false := by
      rw [rG]
      cases q : bG fr to
      · rfl
      · exact absurd q hb
    rw [hno]
    rw [bG_iff] at hb
    repeat' (first
      | ((with_reducible refine Side.intro ?_) <;> (first
      | omega
      | (simp only [List.append_nil, List.nil_append, List.map_nil]; first | exact List.nodup_nil | exact nodup_bid1 _ | exact nodup_bid2 (by assumption))
      | ((first | refine fresh_tup ?_ | skip); (repeat (first | exact fresh_sp _ |  exact FreshA.sl _ _ FreshA_bs | exact FreshA.sl _ _ FreshA_is | exact FreshA.nils | exact FreshA.nilp | exact FreshA.int _ _ | exact FreshA.bool _ | exact FreshA.str _ | exact fresh_nil | refine fresh_cons ?_ ?_ | with_reducible refine fresh_aggR ?_ | with_reducible refine fresh_agg ?_ | with_reducible exact fresh_nilA | with_reducible refine fresh_consA ?_ ?_)); done)
      ))
      | ((conv => whnf) <;> (first
      | (with_reducible refine and_same ?_)
      | (with_reducible refine and_side ?_ ?_)
      | ((with_reducible apply Br.yes) ; (focus omega))
      | (with_reducible refine Br.mk (fun _ => ?_) (fun _ => ?_))
      | (with_reducible refine NOut.lit ?_)
      ))
      )
    all_goals (conv => whnf)
    all_goals (try dsimp only)
    all_goals first
      | omega
      | exact ret_bool rfl
theorem ref10_Right_call (fr to : Int) (L : List (Int × Int)) (hL : L.length ≤ 4611686) {σ : AH} {x : AV} (hx : Looks σ x (.sl 2 (Go.Proofs.Ytjbfdhnfdehdeaa.sp L) false)) {Q : AV → AH → Prop} (h : ∀ σ', Gr σ σ' none → Q (.bool (rG fr to L)) σ') : CallS Try.prog F.joistref10_Right [.int .i64 fr, .int .i64 to, x] σ Q :=
  call_one (ref10_Right_ok fr to L hL) (.cons (.int _ _ _) (.cons (.int _ _ _) (.cons hx .nil))) rfl h
theorem endp_take {fr to : Int} {L : List (Int × Int)} (h : sOk to fr L = true) (hb : fr ≤ to) (i : Nat) : fr ≤ endp fr (L.take i) ∧ endp fr (L.take i) ≤ to := endp_bd (sOk_take h i) hb
theorem sC_at {fr to : Int} {L : List (Int × Int)} (h : sOk to fr L = true) {i : Nat} {p : Int × Int} (hp : L[i]? = some p) : sC to (endp fr (L.take i)) p = true := by
  have := sOk_take h (i + 1)
  rw [List.take_add_one, hp, Option.toList_some, sOk_append] at this
  simp only [Bool.and_eq_true] at this
  exact this.2
theorem ref10_Gaps_ok (fr to : Int) (L : List (Int × Int)) (hL : L.length ≤ 4611686) : AOKn Try.prog F.joistref10_Gaps [.int .i64 fr, .int .i64 to, .sl 2 (sp L) false] fun y => y = .tup [.sl 2 (sp (gapR fr to L)) true, .int .i64 (gapE fr to L)] := by
  have hn := sp_length L
  refine AOKn.by_steps mixed fc_joistref10_Gaps_ok (by simp [fc_joistref10_Gaps]) ?_
  skip
  all_goals (conv => whnf)
  all_goals (try dsimp only)
  refine ref10_Right_call fr to L hL (Looks.sp _ _ _) fun H1 hg1 => ?_
  cases hr : rG fr to L
  · rw [gapR, gapE, hr]
    repeat' (first
      | ((with_reducible refine Side.intro ?_) <;> (first
      | (simp only [List.append_nil, List.nil_append, List.map_nil]; first | exact List.nodup_nil | exact nodup_bid1 _ | exact nodup_bid2 (by assumption))
      | ((first | refine fresh_tup ?_ | skip); (repeat (first | exact fresh_sp _ |  exact FreshA.sl _ _ FreshA_bs | exact FreshA.sl _ _ FreshA_is | exact FreshA.nils | exact FreshA.nilp | exact FreshA.int _ _ | exact FreshA.bool _ | exact FreshA.str _ | exact fresh_nil | refine fresh_cons ?_ ?_ | with_reducible refine fresh_aggR ?_ | with_reducible refine fresh_agg ?_ | with_reducible exact fresh_nilA | with_reducible refine fresh_consA ?_ ?_)); done)
      ))
      | ((conv => whnf) <;> (first
      | (with_reducible refine and_side ?_ ?_)
      | (with_reducible refine NOut.lit ?_)
      ))
      )
    all_goals (conv => whnf)
    all_goals (try dsimp only)
    exact ret_nilt rfl
  · rw [gapR, gapE, hr]
    simp only [rG, Bool.and_eq_true] at hr
    obtain ⟨hb, hok⟩ := hr
    obtain ⟨b1, b2, b3, b4, b5⟩ := bG_iff.1 hb
    skip
    all_goals (conv => whnf)
    all_goals (try dsimp only)
    refine loop_at (α := Nat × AH × AV) (fun a => [(9, a.2.2), (10, .int .i64 (endp fr (L.take a.1))), (11, .int .i64 a.1)]) (fun a => a.2.1) (fun a => a.1 ≤ L.length + 1 ∧ Own a.2.1 2 a.2.2 (sp (gpF (if a.1 ≤ L.length then clP fr (L.take a.1) else cls fr to L)))) (fun a => L.length + 1 - a.1) (0, H1, .nils) ⟨Nat.zero_le _, by dsimp only; rw [if_pos (Nat.zero_le _)]; exact Own.nil _ _⟩ rfl rfl ?_
    rintro ⟨i, σ, ob⟩ ⟨hi, ho⟩
    dsimp only at hi ho ⊢
    have hep := endp_take hok b2 i
    by_cases hlt : i < L.length
    · obtain ⟨p, hp, hp'⟩ := getN hlt
      have et : L.take (i + 1) = L.take i ++ [p] := by rw [List.take_add_one, hp']; rfl
      have e2 : endp fr (L.take (i + 1)) = p.1 + p.2 := by rw [et, endp_append]
      have e3 : clP fr (L.take (i + 1)) = clP fr (L.take i) ++ [(endp fr (L.take i), p.1)] := by rw [et, clP_append]
      have hsc := sC_at hok hp'
      simp only [sC, decide_eq_true_eq] at hsc
      rw [if_pos (by omega)] at ho
      have hgl := gpF_len (clP fr (L.take i))
      have hcl := clP_len fr (L.take i)
      have htl : (L.take i).length ≤ i := by rw [List.length_take]; omega
      have hsl := sp_length (gpF (clP fr (L.take i)))
      generalize endp fr (L.take i) = at' at *
      by_cases hgt : at' < p.1
      · repeat' (first
          | ((with_reducible refine Side.intro ?_) <;> (first
          | omega
          | exact Nat.le_of_ble_eq_true rfl
          | exact rfl
          ))
          | ((conv => whnf) <;> (first
          | (with_reducible refine and_same ?_)
          | (with_reducible refine and_side ?_ ?_)
          | ((with_reducible apply Br.yes) ; (focus omega))
          | ((with_reducible apply blkAt_intro) ; (focus (first
          | ((repeat (first
          | exact get_new
          )); done)
          )) ; (focus (first | rfl | assumption | omega)) ; (try dsimp only))
          | ((with_reducible apply nthR_sp) ; (focus assumption))
          | (with_reducible refine ia_sl ?_ ?_)
          | (with_reducible refine AppC.frz ?_)
          | (with_reducible refine lenR_sl ?_)
          | (with_reducible refine rowsR_rsl ?_)
          ))
          )
        all_goals (conv => whnf)
        all_goals (try dsimp only)
        refine appendR_own (ho.keepN (Gr.append _ _)) (by simp only [List.length_take, List.length_drop, List.length_set, List.length_replicate]; omega) ?_
        intro ob' σ' ho' hg' hb'
        repeat' (first
          | ((with_reducible refine Side.intro ?_) <;> (first
          | omega
          ))
          | ((conv => whnf) <;> (first
          | (with_reducible refine and_same ?_)
          | ((with_reducible apply Br.yes) ; (focus omega))
          | ((with_reducible apply nthR_sp) ; (focus assumption))
          | (with_reducible refine ia_sl ?_ ?_)
          | (with_reducible refine lenR_sl ?_)
          ))
          )
        all_goals (conv => whnf)
        all_goals (try dsimp only)
        refine ⟨(i + 1, σ', ob'), by dsimp only; rw [e2]; rfl, rfl, ⟨by dsimp only; omega, ?_⟩, by dsimp only; omega⟩
        dsimp only
        rw [if_pos (by omega), e3, gpF_append, sp_append]
        have : gpF [(at', p.1)] = [(at', p.1 - at')] := by simp [gpF, hgt]
        rw [this]
        exact ho'
      · repeat' (first
          | ((with_reducible refine Side.intro ?_) <;> (first
          | omega
          ))
          | ((conv => whnf) <;> (first
          | (with_reducible refine and_same ?_)
          | ((with_reducible apply Br.yes) ; (focus omega))
          | ((with_reducible apply Br.no) ; (focus omega))
          | ((with_reducible apply nthR_sp) ; (focus assumption))
          | (with_reducible refine ia_sl ?_ ?_)
          | (with_reducible refine lenR_sl ?_)
          ))
          )
        all_goals (conv => whnf)
        all_goals (try dsimp only)
        refine ⟨(i + 1, σ, ob), by dsimp only; rw [e2]; rfl, rfl, ⟨by dsimp only; omega, ?_⟩, by dsimp only; omega⟩
        dsimp only
        rw [if_pos (by omega), e3, gpF_append, sp_append]
        have : gpF [(at', p.1)] = [] := by simp [gpF, hgt]
        rw [this, show sp [] = [] from rfl, List.append_nil]
        exact ho
    · by_cases hil : i = L.length
      · subst hil
        have et : L.take (L.length + 1) = L := List.take_of_length_le (by omega)
        rw [if_pos (Nat.le_refl _), List.take_length] at ho
        rw [List.take_length] at hep ⊢
        have hgl := gpF_len (clP fr L)
        have hcl := clP_len fr L
        have hsl := sp_length (gpF (clP fr L))
        have ec : cls fr to L = clP fr L ++ [(endp fr L, to)] := rfl
        by_cases hgt : endp fr L < to
        · repeat' (first
            | ((with_reducible refine Side.intro ?_) <;> (first
            | omega
            | exact Nat.le_of_ble_eq_true rfl
            | exact rfl
            ))
            | ((conv => whnf) <;> (first
            | (with_reducible refine and_same ?_)
            | (with_reducible refine and_side ?_ ?_)
            | ((with_reducible apply Br.yes) ; (focus omega))
            | ((with_reducible apply Br.no) ; (focus omega))
            | ((with_reducible apply blkAt_intro) ; (focus (first
            | ((repeat (first
            | exact get_new
            )); done)
            )) ; (focus (first | rfl | assumption | omega)) ; (try dsimp only))
            | (with_reducible refine AppC.frz ?_)
            | (with_reducible refine lenR_sl ?_)
            | (with_reducible refine rowsR_rsl ?_)
            ))
            )
          all_goals (conv => whnf)
          all_goals (try dsimp only)
          refine appendR_own (ho.keepN (Gr.append _ _)) (by simp only [List.length_take, List.length_drop, List.length_set, List.length_replicate]; omega) ?_
          intro ob' σ' ho' hg' hb'
          repeat' (first
            | ((conv => whnf) <;> (first
            | (with_reducible refine and_same ?_)
            | ((with_reducible apply Br.yes) ; (focus omega))
            | ((with_reducible apply Br.no) ; (focus omega))
            | (with_reducible refine lenR_sl ?_)
            ))
            )
          all_goals (conv => whnf)
          all_goals (try dsimp only)
          refine ⟨(L.length + 1, σ', ob'), by dsimp only; rw [et]; rfl, rfl, ⟨by dsimp only; omega, ?_⟩, by dsimp only; omega⟩
          dsimp only
          rw [if_neg (by omega), ec, gpF_append, sp_append]
          have : gpF [(endp fr L, to)] = [(endp fr L, to - endp fr L)] := by simp [gpF, hgt]
          rw [this]
          exact ho'
        · repeat' (first
            | ((conv => whnf) <;> (first
            | (with_reducible refine and_same ?_)
            | ((with_reducible apply Br.yes) ; (focus omega))
            | ((with_reducible apply Br.no) ; (focus omega))
            | (with_reducible refine lenR_sl ?_)
            ))
            )
          all_goals (conv => whnf)
          all_goals (try dsimp only)
          refine ⟨(L.length + 1, σ, ob), by dsimp only; rw [et]; rfl, rfl, ⟨by dsimp only; omega, ?_⟩, by dsimp only; omega⟩
          dsimp only
          rw [if_neg (by omega), ec, gpF_append, sp_append]
          have : gpF [(endp fr L, to)] = [] := by simp [gpF, hgt]
          rw [this, show sp [] = [] from rfl, List.append_nil]
          exact ho
      · rw [if_neg (by omega)] at ho
        repeat' (first
          | ((with_reducible refine Side.intro ?_) <;> (first
          | (simp only [List.append_nil, List.nil_append, List.map_nil]; first | exact List.nodup_nil | exact nodup_bid1 _ | exact nodup_bid2 (by assumption))
          | ((first | refine fresh_tup ?_ | skip); (repeat (first | exact fresh_sp _ |  exact FreshA.sl _ _ FreshA_bs | exact FreshA.sl _ _ FreshA_is | exact FreshA.nils | exact FreshA.nilp | exact FreshA.int _ _ | exact FreshA.bool _ | exact FreshA.str _ | exact fresh_nil | refine fresh_cons ?_ ?_ | with_reducible refine fresh_aggR ?_ | with_reducible refine fresh_agg ?_ | with_reducible exact fresh_nilA | with_reducible refine fresh_consA ?_ ?_)); done)
          ))
          | ((conv => whnf) <;> (first
          | (with_reducible refine and_same ?_)
          | (with_reducible refine and_side ?_ ?_)
          | ((with_reducible apply Br.no) ; (focus omega))
          | ((with_reducible apply NOut.own) ; (focus assumption))
          | (with_reducible refine NOut.lit ?_)
          | (with_reducible refine lenR_sl ?_)
          ))
          )
        all_goals (conv => whnf)
        all_goals (try dsimp only)
        exact ret_same rfl
end Go.Proofs.Ytjbfdhnfdehdeaa
