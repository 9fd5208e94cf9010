import Derived.Test.YtjbfdhnfdehdeaaPgaps
namespace Go.Proofs.Ytjbfdhnfdehdeaa
open Go Go.Proofs.Ytjbfdhnfdehdeaa.V
set_option maxRecDepth 20000
attribute [local irreducible] CallS AOK AOKn ALoop Side Ref.ok
theorem right_doer : Doer F.gaps_Right_1 [] (S := Unit) (fun _ _ _ => True) (fun _ _ => False) := by
  refine ⟨?_, fun _ _ _ _ _ _ => trivial, fun _ _ _ _ _ h => h.elim⟩
  intro M s σ a e _ _ _ _ _ _
  refine call_of_body mixed fc_gaps_Right_1_ok (by simp [fc_gaps_Right_1]) ?_
  skip
  all_goals (conv => whnf)
  all_goals (try dsimp only)
  exact ⟨(), trivial, Nat.le_refl _, fun id b hb _ => hb, fun id h => h.elim⟩
theorem gaps_Right_ok (fr to : Int) (L : List (Int × Int)) (hL : L.length ≤ 4611686) : AOKn Try.prog F.gaps_Right [.int .i64 fr, .int .i64 to, .sl 2 (sp L) false] fun y => y = .bool (rG fr to L) := by
  refine AOKn.by_steps mixed fc_gaps_Right_ok (by simp [fc_gaps_Right]) ?_
  skip
  all_goals (conv => whnf)
  all_goals (try dsimp only)
  refine between_ok fr to L hL right_doer () _ trivial _ fun s σ' _ _ _ => ?_
  repeat' (first
    | ((with_reducible refine Side.intro ?_) <;> (first
    | (simp only [List.append_nil, List.nil_append, List.map_nil]; first | exact List.nodup_nil | exact nodup_bid1 _ | exact nodup_bid2 (by assumption))
    | ((first | refine fresh_tup ?_ | skip); (repeat (first | exact fresh_sp _ |  exact FreshA.sl _ _ FreshA_bs | exact FreshA.sl _ _ FreshA_is | exact FreshA.nils | exact FreshA.nilp | exact FreshA.int _ _ | exact FreshA.bool _ | exact FreshA.str _ | exact fresh_nil | refine fresh_cons ?_ ?_ | with_reducible refine fresh_aggR ?_ | with_reducible refine fresh_agg ?_ | with_reducible exact fresh_nilA | with_reducible refine fresh_consA ?_ ?_)); done)
    ))
    | ((conv => whnf) <;> (first
    | (with_reducible refine and_side ?_ ?_)
    | (with_reducible refine NOut.lit ?_)
    ))
    )
  all_goals (conv => whnf)
  all_goals (try dsimp only)
  exact ret_bool rfl
theorem gaps_Right_call (fr to : Int) (L : List (Int × Int)) (hL : L.length ≤ 4611686) {σ : AH} {x : AV} (hx : Looks σ x (.sl 2 (Go.Proofs.Ytjbfdhnfdehdeaa.sp L) false)) {Q : AV → AH → Prop} (h : ∀ σ', Gr σ σ' none → Q (.bool (rG fr to L)) σ') : CallS Try.prog F.gaps_Right [.int .i64 fr, .int .i64 to, x] σ Q :=
  call_one (gaps_Right_ok fr to L hL) (.cons (.int _ _ _) (.cons (.int _ _ _) (.cons hx .nil))) rfl h
def gapR (fr to : Int) (L : List (Int × Int)) : List (Int × Int) := if rG fr to L then gaps fr to L else []
def gapE (fr to : Int) (L : List (Int × Int)) : Int := if rG fr to L then 0 else 1
def GJ (M : List (Int × Int)) (ob : AV) (σ : AH) : Prop := (∃ p, σ[0]? = some { sz := 1, els := [[ob]], gen := 0, wr := true, pure := p }) ∧ Own σ 2 ob (sp (gpF M)) ∧ ob.bid ≠ some 0
theorem gaps_doer : Doer F.gaps_Gaps_1 [.ptr 0 0 0 0] GJ (fun ob id => id = 0 ∨ ob.bid = some id) := by
  refine ⟨?_, ?_, ?_⟩
  · rintro M ob σ a e ⟨⟨p, hb⟩, ho, hn⟩ hM a0 a1 e0 e1
    have hgl := gpF_len M
    have hsl := sp_length (gpF M)
    obtain ⟨o1, o2, o3⟩ := ho.one
    refine call_of_body mixed fc_gaps_Gaps_1_ok (by simp [fc_gaps_Gaps_1]) ?_
    by_cases hlt : a < e
    · repeat' (first
        | ((with_reducible refine Side.intro ?_) <;> (first
        | omega
        | exact Nat.le_of_ble_eq_true rfl
        | exact rfl
        ))
        | ((conv => whnf) <;> (first
        | (with_reducible refine and_same ?_)
        | (with_reducible refine and_side ?_ ?_)
        | ((with_reducible apply Br.yes) ; (focus omega))
        | ((with_reducible apply blkAt_intro) ; (focus (first
        | ((repeat (first
        | assumption
        | exact get_new
        )); done)
        )) ; (focus (first | rfl | assumption | omega)) ; (try dsimp only))
        | (with_reducible refine AppC.frz ?_)
        | (with_reducible refine rowsR_rsl ?_)
        ))
        )
      all_goals (conv => whnf)
      all_goals (try dsimp only)
      refine appendR_own (rows := sp (gpF M)) (ho.keepN (Gr.append _ _)) (by simp only [List.length_take, List.length_drop, List.length_set, List.length_replicate]; omega) ?_
      intro ob' σ' ho' hg' hb'
      have hb2 : σ'[0]? = some { sz := 1, els := [[ob]], gen := 0, wr := true, pure := p } := hg'.2 _ _ (get_old hb) hn
      obtain ⟨q1, q2, q3⟩ := ho'.one
      have hn' : ob'.bid ≠ some 0 := by
        have hl0 := (List.getElem?_eq_some_iff.1 hb).1
        rcases hb' with q | q
        · rw [q]; exact hn
        · rw [q]
          simp only [newB_length, ne_eq, Option.some.injEq]
          omega
      repeat' (first
        | ((with_reducible refine Side.intro ?_) <;> (first
        | omega
        | (simp only [bs_length, List.length_append, List.length_cons, List.length_nil, List.length_take, List.length_drop, List.length_set, List.length_replicate]; omega)
        ))
        | ((conv => whnf) <;> (first
        | (with_reducible refine and_same ?_)
        | (with_reducible refine and_side ?_ ?_)
        | ((with_reducible apply blkAt_intro) ; (focus (first
        | ((repeat (first
        | assumption
        )); done)
        )) ; (focus (first | rfl | assumption | omega)) ; (try dsimp only))
        ))
        )
      all_goals (conv => whnf)
      all_goals (try dsimp only)
      rw [q1]
      skip
      all_goals (conv => whnf)
      all_goals (try dsimp only)
      refine ⟨ob', ⟨⟨_, get_set hb2⟩, ?_, hn'⟩, ?_, ?_, ?_⟩
      · rw [gpF_append]
        have : gpF [(a, e)] = [(a, e - a)] := by simp [gpF, hlt]
        rw [this, sp_append]
        exact Own.keep (Gr.set _ 0 _) ho' (.inr fun e => hn' e.symm)
      · have := hg'.1
        simp only [newB_length] at this
        rw [List.length_set]; omega
      · intro id b hbb hno
        refine get_set_ne (fun e => hno (.inl e.symm)) (hg'.2 id b (get_old hbb) fun e => hno (.inr e))
      · rintro id (rfl | h)
        · exact .inl (.inl rfl)
        · rcases hb' with q | q
          · exact .inl (.inr (by rw [← q]; exact h))
          · rw [q] at h
            simp only [newB_length, Option.some.injEq] at h
            right; omega
    · repeat' (first
        | ((conv => whnf) <;> (first
        | (with_reducible refine and_same ?_)
        | ((with_reducible apply Br.no) ; (focus omega))
        ))
        )
      all_goals (conv => whnf)
      all_goals (try dsimp only)
      refine ⟨ob, ⟨⟨p, hb⟩, ?_, hn⟩, Nat.le_refl _, fun id b hb _ => hb, fun id h => .inl h⟩
      rw [gpF_append]
      have : gpF [(a, e)] = [] := by simp [gpF, hlt]
      rw [this, List.append_nil]
      exact ho
  · rintro M ob σ σ' ⟨⟨p, hb⟩, ho, hn⟩ hg
    exact ⟨⟨p, gr_get hg hb⟩, ho.keepN hg, hn⟩
  · rintro M ob σ ⟨⟨p, hb⟩, ho, hn⟩ id (rfl | h)
    · exact (List.getElem?_eq_some_iff.1 hb).1
    · exact ho.lt h
theorem gaps_Gaps_ok (fr to : Int) (L : List (Int × Int)) (hL : L.length ≤ 4611686) : AOKn Try.prog F.gaps_Gaps [.int .i64 fr, .int .i64 to, .sl 2 (sp L) false] fun y => y = .tup [.sl 2 (sp (gapR fr to L)) true, .int .i64 (gapE fr to L)] := by
  refine AOKn.by_steps mixed fc_gaps_Gaps_ok (by simp [fc_gaps_Gaps]) ?_
  skip
  all_goals (conv => whnf)
  all_goals (try dsimp only)
  refine between_ok fr to L hL gaps_doer .nils _ ⟨⟨_, rfl⟩, Own.nil _ _, by simp [AV.bid]⟩ _ fun ob σ' hJ hl hf => ?_
  cases hr : rG fr to L
  · rw [gapR, gapE, hr]
    repeat' (first
      | ((with_reducible refine Side.intro ?_) <;> (first
      | (simp only [List.append_nil, List.nil_append, List.map_nil]; first | exact List.nodup_nil | exact nodup_bid1 _ | exact nodup_bid2 (by assumption))
      | ((first | refine fresh_tup ?_ | skip); (repeat (first | exact fresh_sp _ |  exact FreshA.sl _ _ FreshA_bs | exact FreshA.sl _ _ FreshA_is | exact FreshA.nils | exact FreshA.nilp | exact FreshA.int _ _ | exact FreshA.bool _ | exact FreshA.str _ | exact fresh_nil | refine fresh_cons ?_ ?_ | with_reducible refine fresh_aggR ?_ | with_reducible refine fresh_agg ?_ | with_reducible exact fresh_nilA | with_reducible refine fresh_consA ?_ ?_)); done)
      ))
      | ((conv => whnf) <;> (first
      | (with_reducible refine and_side ?_ ?_)
      | (with_reducible refine NOut.lit ?_)
      ))
      )
    all_goals (conv => whnf)
    all_goals (try dsimp only)
    exact ret_nilt rfl
  · rw [gapR, gapE, hr]
    obtain ⟨⟨p, hb⟩, ho, hn⟩ := hJ hr
    repeat' (first
      | ((with_reducible refine Side.intro ?_) <;> (first
      | (simp only [List.append_nil, List.nil_append, List.map_nil]; first | exact List.nodup_nil | exact nodup_bid1 _ | exact nodup_bid2 (by assumption))
      | ((first | refine fresh_tup ?_ | skip); (repeat (first | exact fresh_sp _ |  exact FreshA.sl _ _ FreshA_bs | exact FreshA.sl _ _ FreshA_is | exact FreshA.nils | exact FreshA.nilp | exact FreshA.int _ _ | exact FreshA.bool _ | exact FreshA.str _ | exact fresh_nil | refine fresh_cons ?_ ?_ | with_reducible refine fresh_aggR ?_ | with_reducible refine fresh_agg ?_ | with_reducible exact fresh_nilA | with_reducible refine fresh_consA ?_ ?_)); done)
      ))
      | ((conv => whnf) <;> (first
      | (with_reducible refine and_side ?_ ?_)
      | ((with_reducible apply blkAt_intro) ; (focus (first
      | ((repeat (first
      | assumption
      )); done)
      )) ; (focus (first | rfl | assumption | omega)) ; (try dsimp only))
      | ((with_reducible apply NOut.own) ; (focus assumption))
      | (with_reducible refine NOut.lit ?_)
      ))
      )
    all_goals (conv => whnf)
    all_goals (try dsimp only)
    exact ret_same rfl
end Go.Proofs.Ytjbfdhnfdehdeaa
