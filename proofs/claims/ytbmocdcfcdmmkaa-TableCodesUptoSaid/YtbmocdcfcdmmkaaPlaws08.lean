import Derived.Test.YtbmocdcfcdmmkaaPtable4
import Derived.Test.YtbmocdcfcdmmkaaPref01
namespace Go.Proofs.Ytbmocdcfcdmmkaa
open Go Go.Proofs.Ytbmocdcfcdmmkaa.V
set_option maxRecDepth 20000
attribute [local irreducible] CallS AOK AOKn ALoop Side Ref.ok
theorem New_call (n : Int) {σ : AH} {Q : AV → AH → Prop} (h : ∀ σ' y, Gr σ σ' none → Own σ' 5 y (ss (newR n)) → New σ y → Q (.tup [y, .int .i64 (newE n)]) σ') : CallS Try.prog F.table_New [.int .i64 n] σ Q :=
  call_sl1 (New_ok n) (.cons (.int _ _ _) .nil) rfl h
def s45 : Sl := ⟨0, false, false, 4, 5⟩
theorem small_ok : AOKn Try.prog F.joistlaw08_small [] fun y => y = .bool true := by
  refine AOKn.by_steps mixed fc_joistlaw08_small_ok (by simp [fc_joistlaw08_small]) ?_
  have a1 : newR 2 = [Sl.z, Sl.z] := rfl
  have a2 : newE 2 = 0 := rfl
  have b1 : tkR [Sl.z, Sl.z] s45 = [⟨0, true, false, 4, 5⟩, Sl.z] := rfl
  have b2 : tkI [Sl.z, Sl.z] s45 = 0 := rfl
  have b3 : tkG [Sl.z, Sl.z] s45 = 0 := rfl
  have b4 : tkE [Sl.z, Sl.z] s45 = 0 := rfl
  have c1 : findV [⟨0, true, false, 4, 5⟩, Sl.z] 0 0 = 0 := rfl
  have c2 : findOk [⟨0, true, false, 4, 5⟩, Sl.z] 0 0 = true := rfl
  have d1 : frR [⟨0, true, false, 4, 5⟩, Sl.z] 0 = [⟨1, false, false, 0, 0⟩, Sl.z] := rfl
  have d2 : frE [⟨0, true, false, 4, 5⟩, Sl.z] 0 = 0 := rfl
  have e1 : findV [⟨1, false, false, 0, 0⟩, Sl.z] 0 0 = 0 := rfl
  have e2 : findOk [⟨1, false, false, 0, 0⟩, Sl.z] 0 0 = false := rfl
  have f2 : tkI [⟨1, false, false, 0, 0⟩, Sl.z] s45 = 0 := rfl
  have f3 : tkG [⟨1, false, false, 0, 0⟩, Sl.z] s45 = 1 := rfl
  have f4 : tkE [⟨1, false, false, 0, 0⟩, Sl.z] s45 = 0 := rfl
  skip
  all_goals (conv => whnf)
  all_goals (try dsimp only)
  refine New_call 2 fun H1 y1 hg1 hy1 hn1 => ?_
  rw [a1] at hy1
  rw [a2]
  repeat' (first
    | ((with_reducible refine Side.intro ?_) <;> (first
    | assumption
    | exact Nat.le_of_ble_eq_true rfl
    | exact rfl
    ))
    | ((conv => whnf) <;> (first
    | (with_reducible refine and_side ?_ ?_)
    ))
    )
  all_goals (conv => whnf)
  all_goals (try dsimp only)
  refine Take_call [Sl.z, Sl.z] s45 (by simp) (Looks.ownss hy1) fun H2 y2 hg2 hy2 hn2 => ?_
  rw [b1] at hy2
  rw [b2, b3, b4]
  have l2 : (ss [⟨0, true, false, 4, 5⟩, Sl.z]).length = 2 := rfl
  unfold hav
  repeat' (first
    | ((with_reducible refine Side.intro ?_) <;> (first
    | assumption
    | exact Nat.le_of_ble_eq_true rfl
    ))
    | ((conv => whnf) <;> (first
    | (with_reducible refine and_same ?_)
    | (with_reducible refine and_side ?_ ?_)
    | (with_reducible refine Br.no (by omega) ?_)
    | ((with_reducible apply blkAt_intro) ; (focus (first
    | ((repeat (first
    | exact get_new
    | exact get_set get_new
    )); done)
    )) ; (focus (first | rfl | assumption | omega)) ; (try dsimp only))
    | (with_reducible refine lenR_own (Own.upTo (by assumption) (by ((repeat (first | exact Gr.refl _ _ | assumption | with_reducible refine Gr.trans ?_ (Gr.boxN _ _ _ _ _) | refine Gr.setNew ?_ (by first | exact Nat.le_refl _ | (simp only [newB_length, List.length_set, List.length_append, List.length_singleton]; omega) | omega) _ | refine Gr.addN ?_ _ | refine Gr.newN ?_ _ _ _ | exact Gr.trans (by assumption) (by assumption) | refine Gr.trans ?_ (by assumption) | refine Gr.trans (by assumption) ?_)); (first | done | fail)))) ?_)
    ))
    )
  all_goals (conv => whnf)
  all_goals (try dsimp only)
  refine Find_call [⟨0, true, false, 4, 5⟩, Sl.z] 0 0 (by simp) (Looks.ownss (hy2.keepN (by (repeat (first
        | exact Gr.refl _ _
        | refine Gr.setNew ?_ (by first | exact Nat.le_refl _ | (simp only [newB_length, List.length_set, List.length_append, List.length_singleton]; omega) | omega) _
        | refine Gr.addN ?_ _
        ))))) fun H3 hg3 => ?_
  rw [c1, c2]
  skip
  all_goals (conv => whnf)
  all_goals (try dsimp only)
  refine Free_call [⟨0, true, false, 4, 5⟩, Sl.z] 0 (by simp) (Looks.ownss (hy2.keepN (by (repeat (first
        | exact Gr.refl _ _
        | refine Gr.setNew ?_ (by first | exact Nat.le_refl _ | (simp only [newB_length, List.length_set, List.length_append, List.length_singleton]; omega) | omega) _
        | refine Gr.addN ?_ _
        | refine Gr.trans ?_ (by assumption)
        ))))) fun H4 y4 hg4 hy4 hn4 => ?_
  rw [d1] at hy4
  rw [d2]
  have ch := hg4.2 H2.length _ (hg3.2 H2.length _ (by (first
        | ((repeat (first
        | exact get_set get_new
        )); done)
        )) (by simp)) (by simp)
  repeat' (first
    | ((with_reducible refine Side.intro ?_) <;> (first
    | exact Nat.le_of_ble_eq_true rfl
    ))
    | ((conv => whnf) <;> (first
    | (with_reducible refine and_side ?_ ?_)
    | ((with_reducible apply blkAt_intro) ; (focus (first
    | ((repeat (first
    | assumption
    )); done)
    )) ; (focus (first | rfl | assumption | omega)) ; (try dsimp only))
    ))
    )
  all_goals (conv => whnf)
  all_goals (try dsimp only)
  refine Find_call [⟨1, false, false, 0, 0⟩, Sl.z] 0 0 (by simp) (Looks.ownss (hy4.keepN (by (repeat (first
        | exact Gr.refl _ _
        ))))) fun H5 hg5 => ?_
  rw [e1, e2]
  replace ch := hg5.2 H2.length _ (by (first
        | ((repeat (first
        | assumption
        )); done)
        )) (by simp)
  repeat' (first
    | ((with_reducible refine Side.intro ?_) <;> (first
    | assumption
    | exact Nat.le_of_ble_eq_true rfl
    | exact rfl
    ))
    | ((conv => whnf) <;> (first
    | (with_reducible refine and_side ?_ ?_)
    ))
    )
  all_goals (conv => whnf)
  all_goals (try dsimp only)
  refine Take_call [⟨1, false, false, 0, 0⟩, Sl.z] s45 (by simp) (Looks.ownss (hy4.keepN (by (repeat (first
        | assumption
        ))))) fun H6 y6 hg6 hy6 hn6 => ?_
  rw [f2, f3, f4]
  unfold hav
  replace ch := hg6.2 H2.length _ (by (first
        | ((repeat (first
        | assumption
        )); done)
        )) (by simp)
  have l6 := (List.getElem?_eq_some_iff.1 ch).1
  have hx : Own H6 5 y2 (ss [⟨0, true, false, 4, 5⟩, Sl.z]) := hy2.keepN (by (repeat (first
        | exact Gr.refl _ _
        | refine Gr.setNew ?_ (by first | exact Nat.le_refl _ | (simp only [newB_length, List.length_set, List.length_append, List.length_singleton]; omega) | omega) _
        | refine Gr.addN ?_ _
        | refine Gr.trans ?_ (by assumption)
        )))
  obtain ⟨id, gen, sp, rfl, hb⟩ := hx.ne (by simp [ss])
  clear hy2 hx
  have lid := (List.getElem?_eq_some_iff.1 hb).1
  have hgt : [(⟨0, true, false, 4, 5⟩ : Sl), Sl.z][0 + Int.toNat 0]? = some ⟨0, true, false, 4, 5⟩ := rfl
  repeat' (first
    | ((with_reducible refine Side.intro ?_) <;> (first
    | omega
    | assumption
    | exact Nat.le_of_ble_eq_true rfl
    | (simp only [List.append_nil, List.nil_append, List.map_nil]; first | exact List.nodup_nil | exact nodup_bid1 _ | exact nodup_bid2 (by assumption))
    | ((first | refine fresh_tup ?_ | skip); (repeat (first | exact fresh_ss _ |  exact FreshA.sl _ _ FreshA_bs | exact FreshA.sl _ _ FreshA_is | exact FreshA.nils | exact FreshA.nilp | exact FreshA.int _ _ | exact FreshA.bool _ | exact FreshA.str _ | exact fresh_nil | refine fresh_cons ?_ ?_ | with_reducible refine fresh_aggR ?_ | with_reducible refine fresh_agg ?_ | with_reducible exact fresh_nilA | with_reducible refine fresh_consA ?_ ?_)); done)
    | exact rfl
    ))
    | ((conv => whnf) <;> (first
    | (with_reducible refine and_same ?_)
    | (with_reducible refine and_side ?_ ?_)
    | (with_reducible refine Br.yes rfl ?_)
    | (with_reducible refine Br.yes (by ((with_reducible refine And.intro ?_ ?_); (repeat' (first | with_reducible rfl | exact True.intro | with_reducible refine And.intro ?_ ?_ | omega | assumption)); (first | done | fail))) ?_)
    | ((with_reducible apply blkAt_intro) ; (focus (first
    | ((repeat (first
    | assumption
    | exact get_new
    | exact get_set get_new
    | apply get_old
    | (apply get_set_ne; (focus (first | omega | (simp only [newB_length, List.length_set, List.length_append, List.length_singleton, List.length_nil]; omega))))
    )); done)
    )) ; (focus (first | rfl | assumption | omega)) ; (try dsimp only))
    | (with_reducible refine IaW.of ?_)
    | (with_reducible refine NOut.lit ?_)
    ))
    )
  all_goals (conv => whnf)
  all_goals (try dsimp only)
  all_goals first
    | exact ret_bool rfl
    | trace_state
end Go.Proofs.Ytbmocdcfcdmmkaa
