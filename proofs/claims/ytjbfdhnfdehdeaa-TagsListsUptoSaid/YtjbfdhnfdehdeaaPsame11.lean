import Derived.Test.YtjbfdhnfdehdeaaPdat
namespace Go.Proofs.Ytjbfdhnfdehdeaa
open Go Go.Proofs.Ytjbfdhnfdehdeaa.V
set_option maxRecDepth 20000
attribute [local irreducible] CallS AOK AOKn ALoop Side Ref.ok
theorem SameRows_ok (L M : List (List UInt8)) (hL : L.length ≤ 4611686018427) (hM : M.length ≤ 4611686018427) : AOKn Try.prog F.joistref11_SameRows [.sl 1 (dat L) false, .sl 1 (dat M) false] fun y => y = .bool (decide (L = M)) := by
  have hm := dat_length L
  have hn := dat_length M
  refine AOKn.by_steps mixed fc_joistref11_SameRows_ok (by simp [fc_joistref11_SameRows]) ?_
  repeat' (first
    | ((with_reducible refine Side.intro ?_) <;> (first
    | (simp only [List.append_nil, List.nil_append, List.map_nil]; first | exact List.nodup_nil | exact nodup_bid1 _ | exact nodup_bid2 (by assumption))
    | ((first | refine fresh_tup ?_ | skip); (repeat (first |  exact FreshA.sl _ _ FreshA_bs | exact FreshA.sl _ _ FreshA_is | exact FreshA.nils | exact FreshA.nilp | exact FreshA.int _ _ | exact FreshA.bool _ | exact FreshA.str _ | exact fresh_nil | refine fresh_cons ?_ ?_ | with_reducible refine fresh_aggR ?_ | with_reducible refine fresh_agg ?_ | with_reducible exact fresh_nilA | with_reducible refine fresh_consA ?_ ?_)); done)
    ))
    | ((conv => whnf) <;> (first
    | (with_reducible refine and_same ?_)
    | (with_reducible refine and_side ?_ ?_)
    | (with_reducible refine Br.mk (fun _ => ?_) (fun _ => ?_))
    | (with_reducible refine NOut.lit ?_)
    | (with_reducible refine lenR_sl ?_)
    ))
    )
  all_goals (conv => whnf)
  all_goals (try dsimp only)
  · rename_i h
    exact ret_same (by rw [decide_eq_false (fun e => h (by rw [e]))])
  refine loop_at (α := Nat) (fun a => [(5, .int .i64 a)]) (fun a => [])
      (fun a => a ≤ L.length ∧ ∀ j, j < a → L[j]? = M[j]?) (fun a => L.length - a) 0 ⟨by omega, by simp⟩ rfl rfl ?_
  rintro k ⟨hk, hok⟩
  by_cases hlt : k < L.length
  · obtain ⟨p, hp, hpk⟩ := getN (l := L) (k := k) (by omega)
    obtain ⟨q, hq, hqk⟩ := getN (l := M) (k := k) (by omega)
    repeat' (first
      | ((with_reducible refine Side.intro ?_) <;> (first
      | omega
      | (simp only [List.append_nil, List.nil_append, List.map_nil]; first | exact List.nodup_nil | exact nodup_bid1 _ | exact nodup_bid2 (by assumption))
      | ((first | refine fresh_tup ?_ | skip); (repeat (first |  exact FreshA.sl _ _ FreshA_bs | exact FreshA.sl _ _ FreshA_is | exact FreshA.nils | exact FreshA.nilp | exact FreshA.int _ _ | exact FreshA.bool _ | exact FreshA.str _ | exact fresh_nil | refine fresh_cons ?_ ?_ | with_reducible refine fresh_aggR ?_ | with_reducible refine fresh_agg ?_ | with_reducible exact fresh_nilA | with_reducible refine fresh_consA ?_ ?_)); done)
      ))
      | ((conv => whnf) <;> (first
      | (with_reducible refine and_same ?_)
      | (with_reducible refine and_side ?_ ?_)
      | ((with_reducible apply Br.yes) ; (focus omega))
      | (with_reducible refine Br.mk (fun _ => ?_) (fun _ => ?_))
      | ((with_reducible apply nthR_dat) ; (focus assumption))
      | (with_reducible refine ia_sl ?_ ?_)
      | (with_reducible refine NOut.lit ?_)
      | (with_reducible refine lenR_sl ?_)
      | (with_reducible refine rowsR_sl ?_)
      | ((with_reducible apply bytesR_intro) ; (focus (first | rfl | (simp only [bs_take, bs_drop, bs_append]; rfl))))
      ))
      )
    all_goals (conv => whnf)
    all_goals (try dsimp only)
    · rename_i hne
      exact ret_bool (decide_eq_false fun e => hne (by subst e; rw [hpk] at hqk; cases hqk; rfl)).symm
    · rename_i hne
      refine ⟨k + 1, rfl, rfl, ⟨by omega, fun j hj => ?_⟩, by omega⟩
      by_cases e : j = k
      · subst e
        rw [hpk, hqk, Classical.not_not.1 hne]
      · exact hok j (by omega)
  · repeat' (first
      | ((with_reducible refine Side.intro ?_) <;> (first
      | (simp only [List.append_nil, List.nil_append, List.map_nil]; first | exact List.nodup_nil | exact nodup_bid1 _ | exact nodup_bid2 (by assumption))
      | ((first | refine fresh_tup ?_ | skip); (repeat (first |  exact FreshA.sl _ _ FreshA_bs | exact FreshA.sl _ _ FreshA_is | exact FreshA.nils | exact FreshA.nilp | exact FreshA.int _ _ | exact FreshA.bool _ | exact FreshA.str _ | exact fresh_nil | refine fresh_cons ?_ ?_ | with_reducible refine fresh_aggR ?_ | with_reducible refine fresh_agg ?_ | with_reducible exact fresh_nilA | with_reducible refine fresh_consA ?_ ?_)); done)
      ))
      | ((conv => whnf) <;> (first
      | (with_reducible refine and_same ?_)
      | (with_reducible refine and_side ?_ ?_)
      | ((with_reducible apply Br.no) ; (focus omega))
      | (with_reducible refine NOut.lit ?_)
      | (with_reducible refine lenR_sl ?_)
      ))
      )
    all_goals (conv => whnf)
    all_goals (try dsimp only)
    refine ret_bool (decide_eq_true ?_).symm
    apply List.ext_getElem?
    intro j
    by_cases hj : j < k
    · exact hok j hj
    · rw [List.getElem?_eq_none (by omega), List.getElem?_eq_none (by omega)]
theorem SameRows_call (L M : List (List UInt8)) (hL : L.length ≤ 4611686018427) (hM : M.length ≤ 4611686018427) {σ : AH} {x y : AV} (hx : Looks σ x (.sl 1 (Go.Proofs.Ytjbfdhnfdehdeaa.dat L) false)) (hy : Looks σ y (.sl 1 (Go.Proofs.Ytjbfdhnfdehdeaa.dat M) false)) {Q : AV → AH → Prop} (h : ∀ σ', Gr σ σ' none → Q (.bool (decide (L = M))) σ') : CallS Try.prog F.joistref11_SameRows [x, y] σ Q :=
  call_one (SameRows_ok L M hL hM) (.cons hx (.cons hy .nil)) rfl h
end Go.Proofs.Ytjbfdhnfdehdeaa
