import Derived.Test.YtbmocdcfcdmmkaaPlaws08
import Derived.Test.YtbmocdcfcdmmkaaPwcalls
namespace Go.Proofs.Ytbmocdcfcdmmkaa
open Go Go.Proofs.Ytbmocdcfcdmmkaa.V
set_option maxRecDepth 20000
attribute [local irreducible] CallS AOK AOKn ALoop Side Ref.ok
theorem small_call {σ : AH} {Q : AV → AH → Prop} (h : ∀ σ', Gr σ σ' none → Q (.bool true) σ') : CallS Try.prog F.joistlaw08_small [] σ Q :=
  call_one small_ok .nil rfl h
theorem RNew_call (n : Int) {σ : AH} {Q : AV → AH → Prop} (h : ∀ σ' y, Gr σ σ' none → Own σ' 5 y (ss (newR n)) → New σ y → Q (.tup [y, .int .i64 (newE n)]) σ') : CallS Try.prog F.joistref08_New [.int .i64 n] σ Q :=
  call_sl1 (RNew_ok n) (.cons (.int _ _ _) .nil) rfl h
theorem newR_length (n : Int) : (newR n).length ≤ 32 := by
  unfold newR
  split
  · rename_i h
    simp only [lenOk, decide_eq_true_eq] at h
    rw [List.length_replicate]; omega
  · simp
theorem TableTells_ok (l : List Sl) (n i g : Int) (hs : l.length ≤ 4611686018) : AOKn Try.prog F.joistlaw08_TableTells [.sl 5 (ss l) false, .int .i64 n, hav i g] fun y => y = .bool true := by
  have hn := ss_length l
  have hnl := newR_length n
  have hcl := chI_length l l.length
  refine AOKn.by_steps mixed fc_joistlaw08_TableTells_ok (by simp [fc_joistlaw08_TableTells]) ?_
  repeat' (first
    | ((with_reducible refine Side.intro ?_) <;> (first
    | exact rfl
    ))
    | ((conv => whnf) <;> (first
    | (with_reducible refine and_side ?_ ?_)
    ))
    )
  all_goals (conv => whnf)
  all_goals (try dsimp only)
  refine small_call fun H0 hg0 => ?_
  have b0 := hg0.2 0 _ rfl (by simp)
  skip
  all_goals (conv => whnf)
  all_goals (try dsimp only)
  refine New_call n fun H1 a hg1 ha hn1 => ?_
  replace b0 := hg1.2 0 _ (by (first
        | ((repeat (first
        | assumption
        )); done)
        )) (by simp)
  skip
  all_goals (conv => whnf)
  all_goals (try dsimp only)
  refine RNew_call n fun H2 b hg2 hb hn2 => ?_
  replace b0 := hg2.2 0 _ (by (first
        | ((repeat (first
        | assumption
        )); done)
        )) (by simp)
  repeat' (first
    | ((with_reducible refine Side.intro ?_) <;> (first
    | exact Nat.le_of_ble_eq_true rfl
    ))
    | ((conv => whnf) <;> (first
    | (with_reducible refine and_side ?_ ?_)
    | ((with_reducible apply blkAt_intro) ; (focus (first
    | ((repeat (first
    | assumption
    )); done)
    )) ; (focus (first | rfl | assumption | omega)) ; (try dsimp only))
    ))
    )
  all_goals (conv => whnf)
  all_goals (try dsimp only)
  refine Find_call l i g (by omega) (Looks.ss _ _ _) fun H3 hg3 => ?_
  replace b0 := hg3.2 0 _ (by (first
        | ((repeat (first
        | assumption
        )); done)
        )) (by simp)
  repeat' (first
    | ((with_reducible refine Side.intro ?_) <;> (first
    | exact Nat.le_of_ble_eq_true rfl
    ))
    | ((conv => whnf) <;> (first
    | (with_reducible refine and_side ?_ ?_)
    | ((with_reducible apply blkAt_intro) ; (focus (first
    | ((repeat (first
    | assumption
    )); done)
    )) ; (focus (first | rfl | assumption | omega)) ; (try dsimp only))
    ))
    )
  all_goals (conv => whnf)
  all_goals (try dsimp only)
  refine RFind_call l i g (by omega) (Looks.ss _ _ _) fun H4 hg4 => ?_
  replace b0 := hg4.2 0 _ (by (first
        | ((repeat (first
        | assumption
        )); done)
        )) (by simp)
  skip
  all_goals (conv => whnf)
  all_goals (try dsimp only)
  refine Next_call l (by omega) (Looks.ss _ _ _) fun H5 hg5 => ?_
  replace b0 := hg5.2 0 _ (by (first
        | ((repeat (first
        | assumption
        )); done)
        )) (by simp)
  skip
  all_goals (conv => whnf)
  all_goals (try dsimp only)
  refine RNext_call l (by omega) (Looks.ss _ _ _) fun H6 hg6 => ?_
  replace b0 := hg6.2 0 _ (by (first
        | ((repeat (first
        | assumption
        )); done)
        )) (by simp)
  skip
  all_goals (conv => whnf)
  all_goals (try dsimp only)
  refine TSame_call _ (by omega) (Looks.ownss (ha.keepN (by (repeat (first
        | exact Gr.trans (by assumption) (by assumption)
        | refine Gr.trans ?_ (by assumption)
        ))))) (Looks.ownss (hb.keepN (by (repeat (first
        | exact Gr.trans (by assumption) (by assumption)
        | refine Gr.trans ?_ (by assumption)
        ))))) fun H7 hg7 => ?_
  replace b0 := hg7.2 0 _ (by (first
        | ((repeat (first
        | assumption
        )); done)
        )) (by simp)
  repeat' (first
    | ((conv => whnf) <;> (first
    | (with_reducible refine and_same ?_)
    | (with_reducible refine Br.yes rfl ?_)
    ))
    )
  all_goals (conv => whnf)
  all_goals (try dsimp only)
  refine Right_call l (by omega) (Looks.ss _ _ _) fun H8 hg8 => ?_
  replace b0 := hg8.2 0 _ (by (first
        | ((repeat (first
        | assumption
        )); done)
        )) (by simp)
  skip
  all_goals (conv => whnf)
  all_goals (try dsimp only)
  refine RRight_call l (by omega) (Looks.ss _ _ _) fun H9 hg9 => ?_
  replace b0 := hg9.2 0 _ (by (first
        | ((repeat (first
        | assumption
        )); done)
        )) (by simp)
  repeat' (first
    | ((conv => whnf) <;> (first
    | (with_reducible refine Br.yes rfl ?_)
    ))
    )
  all_goals (conv => whnf)
  all_goals (try dsimp only)
  refine Chain_call l (by omega) (Looks.ss _ _ _) fun H10 c hg10 hc hn10 => ?_
  skip
  all_goals (conv => whnf)
  all_goals (try dsimp only)
  refine RChain_call l (by omega) (Looks.ss _ _ _) fun H11 d hg11 hd hn11 => ?_
  skip
  all_goals (conv => whnf)
  all_goals (try dsimp only)
  refine Same_call _ _ (by omega) (by omega) (Looks.ownis (hc.keepN (by (repeat (first
        | assumption
        ))))) (Looks.ownis (hd.keepN (by (repeat (first
        | exact Gr.refl _ _
        ))))) fun H12 hg12 => ?_
  rw [decide_eq_true rfl]
  repeat' (first
    | ((with_reducible refine Side.intro ?_) <;> (first
    | (simp only [List.append_nil, List.nil_append, List.map_nil]; first | exact List.nodup_nil | exact nodup_bid1 _ | exact nodup_bid2 (by assumption))
    | ((first | refine fresh_tup ?_ | skip); (repeat (first | exact fresh_ss _ |  exact FreshA.sl _ _ FreshA_bs | exact FreshA.sl _ _ FreshA_is | exact FreshA.nils | exact FreshA.nilp | exact FreshA.int _ _ | exact FreshA.bool _ | exact FreshA.str _ | exact fresh_nil | refine fresh_cons ?_ ?_ | with_reducible refine fresh_aggR ?_ | with_reducible refine fresh_agg ?_ | with_reducible exact fresh_nilA | with_reducible refine fresh_consA ?_ ?_)); done)
    ))
    | ((conv => whnf) <;> (first
    | (with_reducible refine and_side ?_ ?_)
    | (with_reducible refine NOut.lit ?_)
    ))
    )
  all_goals (conv => whnf)
  all_goals (try dsimp only)
  exact ret_bool rfl
theorem disj_keep {x y : AV} (h : x.bid = none ∨ x.bid ≠ y.bid) : y.bid = none ∨ x.bid ≠ y.bid := by
  rcases h with h | h
  · cases hy : y.bid with
    | none => exact .inl rfl
    | some a => right; rw [h]; simp
  · exact .inr h
theorem tkR_length (l : List Sl) (s : Sl) : (tkR l s).length ≤ l.length := by
  unfold tkR; split
  · rw [List.length_set]; exact Nat.le_refl _
  · simp
theorem frR_length (l : List Sl) (k : Int) : (frR l k).length ≤ l.length := by
  unfold frR; split
  · rw [List.length_set]; exact Nat.le_refl _
  · simp
theorem TableTurns_ok (l : List Sl) (s : Sl) (k : Int) (hs : l.length ≤ 4611686018) : AOKn Try.prog F.joistlaw08_TableTurns [.sl 5 (ss l) false, s.av, .int .i64 k] fun y => y = .bool true := by
  have hn := ss_length l
  obtain ⟨g, lv, tw, a, n⟩ := s
  show AOKn _ _ [.sl 5 (ss l) false, .agg [.int .i64 g, .bool lv, .bool tw, .int .i64 a, .int .i64 n], .int .i64 k] _
  refine AOKn.by_steps mixed fc_joistlaw08_TableTurns_ok (by simp [fc_joistlaw08_TableTurns]) ?_
  repeat' (first
    | ((with_reducible refine Side.intro ?_) <;> (first
    | exact rfl
    ))
    | ((conv => whnf) <;> (first
    | (with_reducible refine and_side ?_ ?_)
    ))
    )
  all_goals (conv => whnf)
  all_goals (try dsimp only)
  refine small_call fun H0 hg0 => ?_
  have b0 := hg0.2 0 _ rfl (by simp)
  have l0 := (List.getElem?_eq_some_iff.1 b0).1
  repeat' (first
    | ((with_reducible refine Side.intro ?_) <;> (first
    | omega
    | exact Nat.le_of_ble_eq_true rfl
    ))
    | ((conv => whnf) <;> (first
    | (with_reducible refine and_side ?_ ?_)
    | ((with_reducible apply blkAt_intro) ; (focus (first
    | ((repeat (first
    | assumption
    | apply get_old
    | (apply get_set_ne; (focus (first | omega | (simp only [newB_length, List.length_set, List.length_append, List.length_singleton, List.length_nil]; omega))))
    )); done)
    )) ; (focus (first | rfl | assumption | omega)) ; (try dsimp only))
    | ((with_reducible apply appendR_lit) ; (focus (first
    | ((repeat (first
    | exact get_new
    )); done)
    )) ; (focus (first | rfl | assumption)) ; (focus rfl) ; (focus rfl) ; (focus rfl) ; (focus (first | exact Nat.zero_le _ | omega | (simp; done) | (simp; omega))) ; (try dsimp only))
    | (with_reducible refine rowsR_sl ?_)
    ))
    )
  all_goals (conv => whnf)
  all_goals (try dsimp only)
  refine Take_call l ⟨g, lv, tw, a, n⟩ hs (Looks.ownss (.mk' (sp := []) (by (first
        | ((repeat (first
        | exact get_set get_new
        )); done)
        )) (by omega) (by rw [List.append_nil]; rfl))) fun H1 x1 hg1 hx1 hn1 => ?_
  have ho : Own H1 5 (.rsl H0.length (0 + 1) 0 (0 + (ss l).length) none) (ss l) := Own.keepN hg1 (.mk' (sp := []) (by (first
        | ((repeat (first
        | exact get_set get_new
        )); done)
        )) (by omega) (by rw [List.append_nil]; rfl))
  have hno : New H0 (.rsl H0.length (0 + 1) 0 (0 + (ss l).length) none) := fun id h => by cases h; exact Nat.le_refl _
  replace b0 := hg1.2 0 _ (by (first
        | ((repeat (first
        | assumption
        | apply get_old
        | (apply get_set_ne; (focus (first | omega | (simp only [newB_length, List.length_set, List.length_append, List.length_singleton, List.length_nil]; omega))))
        )); done)
        )) (by simp)
  generalize hin : AV.rsl H0.length (0 + 1) 0 (0 + (ss l).length) none = inn at *
  unfold hav
  have l1 := (List.getElem?_eq_some_iff.1 b0).1
  repeat' (first
    | ((with_reducible refine Side.intro ?_) <;> (first
    | exact Nat.le_of_ble_eq_true rfl
    | exact rfl
    ))
    | ((conv => whnf) <;> (first
    | (with_reducible refine and_same ?_)
    | (with_reducible refine and_side ?_ ?_)
    | ((with_reducible apply blkAt_intro) ; (focus (first
    | ((repeat (first
    | exact get_new
    )); done)
    )) ; (focus (first | rfl | assumption | omega)) ; (try dsimp only))
    ))
    )
  all_goals (conv => whnf)
  all_goals (try dsimp only)
  refine Free_call l k hs (Looks.ownss (ho.keepN (by (repeat (first
        | exact Gr.refl _ _
        | refine Gr.setNew ?_ (by first | exact Nat.le_refl _ | (simp only [newB_length, List.length_set, List.length_append, List.length_singleton]; omega) | omega) _
        | refine Gr.addN ?_ _
        ))))) fun H2 x2 hg2 hx2 hn2 => ?_
  replace b0 := hg2.2 0 _ (by (first
        | ((repeat (first
        | assumption
        | apply get_old
        | (apply get_set_ne; (focus (first | omega | (simp only [newB_length, List.length_set, List.length_append, List.length_singleton, List.length_nil]; omega))))
        )); done)
        )) (by simp)
  have bh := hg2.2 H1.length _ (by (first
        | ((repeat (first
        | exact get_set get_new
        )); done)
        )) (by simp)
  have l2 := (List.getElem?_eq_some_iff.1 bh).1
  repeat' (first
    | ((with_reducible refine Side.intro ?_) <;> (first
    | exact Nat.le_of_ble_eq_true rfl
    ))
    | ((conv => whnf) <;> (first
    | (with_reducible refine and_side ?_ ?_)
    | ((with_reducible apply blkAt_intro) ; (focus (first
    | ((repeat (first
    | assumption
    )); done)
    )) ; (focus (first | rfl | assumption | omega)) ; (try dsimp only))
    ))
    )
  all_goals (conv => whnf)
  all_goals (try dsimp only)
  refine RTake_call l ⟨g, lv, tw, a, n⟩ hs (Looks.ss _ _ _) fun H3 x3 hg3 hx3 hn3 => ?_
  replace b0 := hg3.2 0 _ (by (first
        | ((repeat (first
        | assumption
        )); done)
        )) (by simp)
  replace bh := hg3.2 H1.length _ (by (first
        | ((repeat (first
        | assumption
        )); done)
        )) (by simp)
  have l3 := (List.getElem?_eq_some_iff.1 bh).1
  unfold hav
  repeat' (first
    | ((with_reducible refine Side.intro ?_) <;> (first
    | exact Nat.le_of_ble_eq_true rfl
    | exact rfl
    ))
    | ((conv => whnf) <;> (first
    | (with_reducible refine and_same ?_)
    | (with_reducible refine and_side ?_ ?_)
    | ((with_reducible apply blkAt_intro) ; (focus (first
    | ((repeat (first
    | exact get_new
    )); done)
    )) ; (focus (first | rfl | assumption | omega)) ; (try dsimp only))
    ))
    )
  all_goals (conv => whnf)
  all_goals (try dsimp only)
  refine RFree_call l k hs (Looks.ss _ _ _) fun H4 x4 hg4 hx4 hn4 => ?_
  replace bh := hg4.2 H1.length _ (by (first
        | ((repeat (first
        | assumption
        | apply get_old
        | (apply get_set_ne; (focus (first | omega | (simp only [newB_length, List.length_set, List.length_append, List.length_singleton, List.length_nil]; omega))))
        )); done)
        )) (by simp)
  have bi := hg4.2 H3.length _ (by (first
        | ((repeat (first
        | exact get_set get_new
        )); done)
        )) (by simp)
  have l4 := (List.getElem?_eq_some_iff.1 bi).1
  skip
  all_goals (conv => whnf)
  all_goals (try dsimp only)
  refine TSame_call l hs (Looks.ownss (ho.keepN (by (repeat (first
        | exact Gr.refl _ _
        | refine Gr.setNew ?_ (by first | exact Nat.le_refl _ | (simp only [newB_length, List.length_set, List.length_append, List.length_singleton]; omega) | omega) _
        | refine Gr.addN ?_ _
        | refine Gr.trans ?_ (by assumption)
        ))))) (Looks.ss _ _ _) fun H5 hg5 => ?_
  replace bh := hg5.2 H1.length _ (by (first
        | ((repeat (first
        | assumption
        )); done)
        )) (by simp)
  replace bi := hg5.2 H3.length _ (by (first
        | ((repeat (first
        | assumption
        )); done)
        )) (by simp)
  skip
  all_goals (conv => whnf)
  all_goals (try dsimp only)
  refine TSame_call _ ?_ (Looks.ownss (hx1.keepN (by (repeat (first
        | exact Gr.refl _ _
        | refine Gr.setNew ?_ (by first | exact Nat.le_refl _ | (simp only [newB_length, List.length_set, List.length_append, List.length_singleton]; omega) | omega) _
        | refine Gr.addN ?_ _
        | refine Gr.trans ?_ (by assumption)
        ))))) (Looks.ownss (hx3.keepN (by (repeat (first
        | exact Gr.refl _ _
        | refine Gr.setNew ?_ (by first | exact Nat.le_refl _ | (simp only [newB_length, List.length_set, List.length_append, List.length_singleton]; omega) | omega) _
        | refine Gr.addN ?_ _
        | refine Gr.trans ?_ (by assumption)
        ))))) fun H6 hg6 => ?_
  · exact Nat.le_trans (tkR_length _ _) hs
  replace bh := hg6.2 H1.length _ (by (first
        | ((repeat (first
        | assumption
        )); done)
        )) (by simp)
  replace bi := hg6.2 H3.length _ (by (first
        | ((repeat (first
        | assumption
        )); done)
        )) (by simp)
  skip
  all_goals (conv => whnf)
  all_goals (try dsimp only)
  refine TSame_call _ ?_ (Looks.ownss (hx2.keepN (by (repeat (first
        | exact Gr.refl _ _
        | refine Gr.setNew ?_ (by first | exact Nat.le_refl _ | (simp only [newB_length, List.length_set, List.length_append, List.length_singleton]; omega) | omega) _
        | refine Gr.addN ?_ _
        | refine Gr.trans ?_ (by assumption)
        | refine Gr.trans (by assumption) ?_
        ))))) (Looks.ownss (hx4.keepN (by (repeat (first
        | exact Gr.trans (by assumption) (by assumption)
        ))))) fun H7 hg7 => ?_
  · exact Nat.le_trans (frR_length _ _) hs
  replace bh := hg7.2 H1.length _ (by (first
        | ((repeat (first
        | assumption
        )); done)
        )) (by simp)
  replace bi := hg7.2 H3.length _ (by (first
        | ((repeat (first
        | assumption
        )); done)
        )) (by simp)
  skip
  all_goals (conv => whnf)
  all_goals (try dsimp only)
  have d1 : inn.bid = none ∨ inn.bid ≠ x1.bid := by
    right
    intro e
    have := hn1 H0.length (by rw [← e, ← hin]; rfl)
    try simp only [List.length_set, newB_length] at this
    omega
  have hy1 : Own H7 5 x1 (ss (tkR l ⟨g, lv, tw, a, n⟩)) := hx1.keepN (by (repeat (first
        | exact Gr.refl _ _
        | refine Gr.setNew ?_ (by first | exact Nat.le_refl _ | (simp only [newB_length, List.length_set, List.length_append, List.length_singleton]; omega) | omega) _
        | refine Gr.addN ?_ _
        | refine Gr.trans ?_ (by assumption)
        )))
  have hy2 : Own H7 5 x2 (ss (frR l k)) := hx2.keepN (by (repeat (first
        | exact Gr.refl _ _
        | refine Gr.setNew ?_ (by first | exact Nat.le_refl _ | (simp only [newB_length, List.length_set, List.length_append, List.length_singleton]; omega) | omega) _
        | refine Gr.addN ?_ _
        | refine Gr.trans ?_ (by assumption)
        | refine Gr.trans (by assumption) ?_
        )))
  have hyo : Own H7 5 inn (ss l) := ho.keepN (by (repeat (first
        | exact Gr.refl _ _
        | refine Gr.setNew ?_ (by first | exact Nat.le_refl _ | (simp only [newB_length, List.length_set, List.length_append, List.length_singleton]; omega) | omega) _
        | refine Gr.addN ?_ _
        | refine Gr.trans ?_ (by assumption)
        )))
  have d12 := disj_new (hx1.keepN (by (repeat (first
        | exact Gr.refl _ _
        | refine Gr.setNew ?_ (by first | exact Nat.le_refl _ | (simp only [newB_length, List.length_set, List.length_append, List.length_singleton]; omega) | omega) _
        | refine Gr.addN ?_ _
        )))) hn2
  have do2 := disj_new (ho.keepN (by (repeat (first
        | exact Gr.refl _ _
        | refine Gr.setNew ?_ (by first | exact Nat.le_refl _ | (simp only [newB_length, List.length_set, List.length_append, List.length_singleton]; omega) | omega) _
        | refine Gr.addN ?_ _
        )))) hn2
  have i1 : x1.bid ≠ some H1.length := not_new hx1
  have i3 : x1.bid ≠ some H3.length := fun e => by
    have := hx1.lt e
    have := hg2.1; have := hg3.1
    try simp only [List.length_set, newB_length] at *
    omega
  have j1 : x2.bid ≠ some H1.length := fun e => by
    have := hn2 _ e
    try simp only [List.length_set, newB_length] at this
    omega
  have j3 : x2.bid ≠ some H3.length := fun e => by
    have := hx2.lt e
    have := hg3.1
    try simp only [List.length_set, newB_length] at *
    omega
  refine spoil_val _ (Nat.le_trans (tkR_length _ _) hs) hy1 fun H8 hg8 hz8 => ?_
  replace bh := hg8.2 H1.length _ bh i1
  replace bi := hg8.2 H3.length _ bi i3
  replace hy2 := hy2.keep hg8 (disj_keep d12)
  replace hyo := hyo.keep hg8 (disj_keep (disj_symm d1))
  skip
  all_goals (conv => whnf)
  all_goals (try dsimp only)
  refine spoil_val _ (Nat.le_trans (frR_length _ _) hs) hy2 fun H9 hg9 hz9 => ?_
  replace bh := hg9.2 H1.length _ bh j1
  replace bi := hg9.2 H3.length _ bi j3
  replace hyo := hyo.keep hg9 (disj_keep (disj_symm do2))
  skip
  all_goals (conv => whnf)
  all_goals (try dsimp only)
  refine TSame_call l hs (Looks.ownss hyo) (Looks.ss _ _ _) fun H10 hg10 => ?_
  replace bh := hg10.2 H1.length _ (by (first
        | ((repeat (first
        | assumption
        )); done)
        )) (by simp)
  replace bi := hg10.2 H3.length _ (by (first
        | ((repeat (first
        | assumption
        )); done)
        )) (by simp)
  repeat' (first
    | ((with_reducible refine Side.intro ?_) <;> (first
    | exact Nat.le_of_ble_eq_true rfl
    | (simp only [List.append_nil, List.nil_append, List.map_nil]; first | exact List.nodup_nil | exact nodup_bid1 _ | exact nodup_bid2 (by assumption))
    | ((first | refine fresh_tup ?_ | skip); (repeat (first | exact fresh_ss _ |  exact FreshA.sl _ _ FreshA_bs | exact FreshA.sl _ _ FreshA_is | exact FreshA.nils | exact FreshA.nilp | exact FreshA.int _ _ | exact FreshA.bool _ | exact FreshA.str _ | exact fresh_nil | refine fresh_cons ?_ ?_ | with_reducible refine fresh_aggR ?_ | with_reducible refine fresh_agg ?_ | with_reducible exact fresh_nilA | with_reducible refine fresh_consA ?_ ?_)); done)
    ))
    | ((conv => whnf) <;> (first
    | (with_reducible refine and_same ?_)
    | (with_reducible refine and_side ?_ ?_)
    | (with_reducible refine Br.yes rfl ?_)
    | (with_reducible refine Br.yes (by ((with_reducible refine And.intro ?_ ?_); (repeat' (first | with_reducible rfl | exact True.intro | with_reducible refine And.intro ?_ ?_ | omega | assumption)); (first | done | fail))) ?_)
    | ((with_reducible apply blkAt_intro) ; (focus (first
    | ((repeat (first
    | assumption
    )); done)
    )) ; (focus (first | rfl | assumption | omega)) ; (try dsimp only))
    | (with_reducible refine NOut.lit ?_)
    ))
    )
  all_goals (conv => whnf)
  all_goals (try dsimp only)
  all_goals first
    | exact ret_bool rfl
    | trace_state
end Go.Proofs.Ytbmocdcfcdmmkaa
