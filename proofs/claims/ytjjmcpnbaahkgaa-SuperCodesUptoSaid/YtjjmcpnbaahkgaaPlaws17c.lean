import Derived.Test.YtjjmcpnbaahkgaaPlaws17b
namespace Go.Proofs.Ytjjmcpnbaahkgaa
open Go Go.Proofs.Ytjjmcpnbaahkgaa.V
set_option maxRecDepth 20000
attribute [local irreducible] CallS AOK AOKn ALoop Side Ref.ok
theorem all2 {x y : AV} {p : AV → Prop} (hx : p x) (hy : p y) : ∀ (j : Nat) (a : AV), [x, y][j]? = some a → p a := by
  intro j a hj
  match j, hj with
  | 0, hj => simp at hj; subst hj; exact hx
  | 1, hj => simp at hj; subst hj; exact hy
theorem disj2 {x y : AV} (h1 : x.bid = none ∨ x.bid ≠ y.bid) :
    ∀ (j k : Nat) (a b : AV), [x, y][j]? = some a → [x, y][k]? = some b → j ≠ k → a.bid = none ∨ a.bid ≠ b.bid := by
  intro j k a b hj hk hjk
  match j, k, hj, hk with
  | 0, 0, _, _ => omega
  | 1, 1, _, _ => omega
  | 0, 1, hj, hk => simp at hj hk; subst hj; subst hk; exact h1
  | 1, 0, hj, hk => simp at hj hk; subst hj; subst hk; exact disj_symm h1
theorem bid_ne {σ : AH} {sz : Nat} {x : AV} {rows : List (List AV)} (hx : Own σ sz x rows) {id : Nat} (h : σ.length ≤ id) : x.bid ≠ some id := fun e => by
  have := hx.lt e
  omega
set_option maxHeartbeats 4000000 in
theorem SuperCodes_ok (p s r o m b : Int) (t nam : List UInt8) (hs : t.length ≤ 4611686018) : AOKn Try.prog F.joistlaw17_SuperCodes [shp p s r o, .int .i64 m, .int .i64 b, .sl 1 (bs t) false, .str nam] fun y => y = .bool true := by
  have hn := bs_length t
  refine AOKn.by_steps mixed fc_joistlaw17_SuperCodes_ok (by simp [fc_joistlaw17_SuperCodes]) ?_
  repeat' (first
    | ((with_reducible refine Side.intro ?_) <;> (first
    | exact rfl
    ))
    | ((conv => whnf) <;> (first
    | (with_reducible refine and_side ?_ ?_)
    ))
    )
  all_goals (conv => whnf)
  all_goals (try dsimp only)
  refine small_call fun H0 hg0 => ?_
  have b0 := hg0.2 0 _ rfl (by simp)
  have l0 := (List.getElem?_eq_some_iff.1 b0).1
  skip
  all_goals (conv => whnf)
  all_goals (try dsimp only)
  refine Lent_val _ t false (by omega) _ ?_
  generalize hσ : H0 ++ [{ sz := 1, els := bs (t ++ [77]), gen := 0, wr := true, pure := true }] = H1
  have hblk : H1[H0.length]? = some { sz := 1, els := bs (t ++ [77]), gen := 0, wr := true, pure := true } := by rw [← hσ]; exact get_new
  replace b0 := get_old (τ := [{ sz := 1, els := bs (t ++ [77]), gen := 0, wr := true, pure := true }]) b0
  rw [hσ] at b0
  have hin : Own H1 1 (.rsl H0.length 0 0 t.length none) (bs t) := .mk' (sp := bs [77]) hblk (by rw [bs_length]) (by rw [bs_append])
  have li1 := (List.getElem?_eq_some_iff.1 hblk).1
  repeat' (first
    | ((with_reducible refine Side.intro ?_) <;> (first
    | exact Nat.le_of_ble_eq_true rfl
    ))
    | ((conv => whnf) <;> (first
    | (with_reducible refine and_side ?_ ?_)
    | ((with_reducible apply blkAt_intro) ; (focus (first
    | ((repeat (first
    | assumption
    )); done)
    )) ; (focus (first | rfl | assumption | omega)) ; (try dsimp only))
    ))
    )
  all_goals (conv => whnf)
  all_goals (try dsimp only)
  refine Write_call p s r o m b fun H2 x hg2 hx hxn => ?_
  have d2 := disj_symm (disj_new hin hxn)
  replace hin := hin.keepN hg2
  replace b0 := hg2.2 0 _ (by (first
        | ((repeat (first
        | assumption
        )); done)
        )) (by simp)
  replace hblk := hg2.2 H0.length _ (by (first
        | ((repeat (first
        | assumption
        )); done)
        )) (by simp)
  have l2 := (List.getElem?_eq_some_iff.1 hblk).1
  skip
  all_goals (conv => whnf)
  all_goals (try dsimp only)
  refine Read_call t hs (.ownbs hin) fun H3 hg3 => ?_
  replace hin := hin.keepN hg3
  replace hx := hx.keepN hg3
  replace b0 := hg3.2 0 _ (by (first
        | ((repeat (first
        | assumption
        )); done)
        )) (by simp)
  replace hblk := hg3.2 H0.length _ (by (first
        | ((repeat (first
        | assumption
        )); done)
        )) (by simp)
  have l3 := (List.getElem?_eq_some_iff.1 hblk).1
  unfold hdA shp
  have q3 := not_new hx
  have qi3 := not_new hin
  repeat' (first
    | ((with_reducible refine Side.intro ?_) <;> (first
    | exact Nat.le_of_ble_eq_true rfl
    | exact rfl
    ))
    | ((conv => whnf) <;> (first
    | (with_reducible refine and_same ?_)
    | (with_reducible refine and_side ?_ ?_)
    | ((with_reducible apply blkAt_intro) ; (focus (first
    | ((repeat (first
    | exact get_new
    )); done)
    )) ; (focus (first | rfl | assumption | omega)) ; (try dsimp only))
    ))
    )
  all_goals (conv => whnf)
  all_goals (try dsimp only)
  refine Kept_val _ t _ _ [] _ (by omega) (by (first
        | ((repeat (first
        | assumption
        | apply get_old
        | (apply get_set_ne; (focus (first | omega | (simp only [newB_length, List.length_set, List.length_append, List.length_singleton, List.length_nil]; omega))))
        )); done)
        )) _ ?_
  repeat' (first
    | ((with_reducible refine Side.intro ?_) <;> (first
    | exact Nat.le_of_ble_eq_true rfl
    ))
    | ((conv => whnf) <;> (first
    | (with_reducible refine and_side ?_ ?_)
    | ((with_reducible apply blkAt_intro) ; (focus (first
    | ((repeat (first
    | assumption
    | apply get_old
    | (apply get_set_ne; (focus (first | omega | (simp only [newB_length, List.length_set, List.length_append, List.length_singleton, List.length_nil]; omega))))
    )); done)
    )) ; (focus (first | rfl | assumption | omega)) ; (try dsimp only))
    ))
    )
  all_goals (conv => whnf)
  all_goals (try dsimp only)
  refine RWrite_call p s r o m b fun H4 y hg4 hy hyn => ?_
  replace b0 := hg4.2 0 _ (by (first
        | ((repeat (first
        | assumption
        | apply get_old
        | (apply get_set_ne; (focus (first | omega | (simp only [newB_length, List.length_set, List.length_append, List.length_singleton, List.length_nil]; omega))))
        )); done)
        )) (by simp)
  have bt := hg4.2 H3.length _ (by (first
        | ((repeat (first
        | exact get_set get_new
        )); done)
        )) (by simp)
  replace hin := hin.keepN (show Gr H3 H4 none from by (repeat (first
        | exact Gr.refl _ _
        | refine Gr.setNew ?_ (by first | exact Nat.le_refl _ | (simp only [newB_length, List.length_set, List.length_append, List.length_singleton]; omega) | omega) _
        | refine Gr.addN ?_ _
        | refine Gr.trans ?_ (by assumption)
        )))
  replace hx := hx.keepN (show Gr H3 H4 none from by (repeat (first
        | exact Gr.refl _ _
        | refine Gr.setNew ?_ (by first | exact Nat.le_refl _ | (simp only [newB_length, List.length_set, List.length_append, List.length_singleton]; omega) | omega) _
        | refine Gr.addN ?_ _
        | refine Gr.trans ?_ (by assumption)
        )))
  have l4 := (List.getElem?_eq_some_iff.1 bt).1
  skip
  all_goals (conv => whnf)
  all_goals (try dsimp only)
  refine RRead_call t hs (.bs _ _ _) fun H5 hg5 => ?_
  replace b0 := hg5.2 0 _ (by (first
        | ((repeat (first
        | assumption
        )); done)
        )) (by simp)
  replace bt := hg5.2 H3.length _ (by (first
        | ((repeat (first
        | assumption
        )); done)
        )) (by simp)
  replace hin := hin.keepN hg5
  replace hx := hx.keepN hg5
  replace hy := hy.keepN hg5
  have l5 := (List.getElem?_eq_some_iff.1 bt).1
  have q5 := not_new hx
  have qi5 := not_new hin
  unfold hdA shp
  obtain ⟨hxc, hxo, hx1⟩ := hx.one
  repeat' (first
    | ((with_reducible refine Side.intro ?_) <;> (first
    | omega
    | exact Nat.le_of_ble_eq_true rfl
    | exact rfl
    ))
    | ((conv => whnf) <;> (first
    | (with_reducible refine and_same ?_)
    | (with_reducible refine and_side ?_ ?_)
    | (with_reducible refine Br.yes rfl ?_)
    | ((with_reducible apply blkAt_intro) ; (focus (first
    | ((repeat (first
    | exact get_new
    )); done)
    )) ; (focus (first | rfl | assumption | omega)) ; (try dsimp only))
    | (with_reducible refine rowsR_own (Own.upTo (by assumption) (by ((repeat (first | exact Gr.refl _ _ | assumption | with_reducible refine Gr.trans ?_ (Gr.boxN _ _ _ _ _) | refine Gr.setNew ?_ (by first | exact Nat.le_refl _ | (simp only [newB_length, List.length_set, List.length_append, List.length_singleton]; omega) | omega) _ | refine Gr.addN ?_ _ | refine Gr.newN ?_ _ _ _ | exact Gr.trans (by assumption) (by assumption) | refine Gr.trans ?_ (by assumption) | refine Gr.trans (by assumption) ?_)); (first | done | fail)))) ?_)
    | (with_reducible refine bytesR_intro (by first | rfl | (simp only [bs_take, bs_drop, bs_append]; rfl)) ?_)
    ))
    )
  all_goals (conv => whnf)
  all_goals (try dsimp only)
  rw [hxc]
  refine Owned_own (newB _ 1 (List.map (fun x => [x]) [x, .rsl H0.length 0 0 t.length none]) _) [x, .rsl H0.length 0 0 t.length none] _ 0 _ true false get_new (all2 ⟨_, hx.keepN (by (repeat (first
        | exact Gr.refl _ _
        | refine Gr.setNew ?_ (by first | exact Nat.le_refl _ | (simp only [newB_length, List.length_set, List.length_append, List.length_singleton]; omega) | omega) _
        | refine Gr.addN ?_ _
        )))⟩ ⟨_, hin.keepN (by (repeat (first
        | exact Gr.refl _ _
        | refine Gr.setNew ?_ (by first | exact Nat.le_refl _ | (simp only [newB_length, List.length_set, List.length_append, List.length_singleton]; omega) | omega) _
        | refine Gr.addN ?_ _
        )))⟩) (disj2 d2) (all2 (bid_ne hx (by simp only [List.length_set, newB_length]; omega)) (bid_ne hin (by simp only [List.length_set, newB_length]; omega))) (by simp) _ ?_
  intro H6 hE
  have lh5 := (List.getElem?_eq_some_iff.1 b0).1
  have p0 : x.bid ≠ some 0 := fun e => by
    have := hxn 0 e
    omega
  have b06 := hE.2 0 _ (by (first
        | ((repeat (first
        | assumption
        | apply get_old
        | (apply get_set_ne; (focus (first | omega | (simp only [newB_length, List.length_set, List.length_append, List.length_singleton, List.length_nil]; omega))))
        )); done)
        )) (all2 p0 (fun e => by have := Option.some.inj e; omega))
  have bt6 := hE.2 H3.length _ (by (first
        | ((repeat (first
        | assumption
        | apply get_old
        | (apply get_set_ne; (focus (first | omega | (simp only [newB_length, List.length_set, List.length_append, List.length_singleton, List.length_nil]; omega))))
        )); done)
        )) (all2 q3 qi3)
  have bu6 := hE.2 H5.length _ (by (first
        | ((repeat (first
        | exact get_set get_new
        | apply get_old
        )); done)
        )) (all2 q5 qi5)
  have m6 := (List.getElem?_eq_some_iff.1 bu6).1
  clear hE
  skip
  all_goals (conv => whnf)
  all_goals (try dsimp only)
  refine Mode_call nam fun H7 hg7 => ?_
  replace b06 := hg7.2 0 _ (by (first
        | ((repeat (first
        | assumption
        )); done)
        )) (by simp)
  replace bt6 := hg7.2 H3.length _ (by (first
        | ((repeat (first
        | assumption
        )); done)
        )) (by simp)
  replace bu6 := hg7.2 H5.length _ (by (first
        | ((repeat (first
        | assumption
        )); done)
        )) (by simp)
  skip
  all_goals (conv => whnf)
  all_goals (try dsimp only)
  refine RMode_call nam fun H8 hg8 => ?_
  replace b06 := hg8.2 0 _ (by (first
        | ((repeat (first
        | assumption
        )); done)
        )) (by simp)
  replace bt6 := hg8.2 H3.length _ (by (first
        | ((repeat (first
        | assumption
        )); done)
        )) (by simp)
  replace bu6 := hg8.2 H5.length _ (by (first
        | ((repeat (first
        | assumption
        )); done)
        )) (by simp)
  repeat' (first
    | ((with_reducible refine Side.intro ?_) <;> (first
    | exact Nat.le_of_ble_eq_true rfl
    ))
    | ((conv => whnf) <;> (first
    | (with_reducible refine and_same ?_)
    | (with_reducible refine and_side ?_ ?_)
    | (with_reducible refine Br.yes rfl ?_)
    | (with_reducible refine Br.yes (by ((with_reducible refine And.intro ?_ ?_); (repeat' (first | with_reducible rfl | exact True.intro | with_reducible refine And.intro ?_ ?_ | omega | assumption)); (first | done | fail))) ?_)
    | ((with_reducible apply blkAt_intro) ; (focus (first
    | ((repeat (first
    | assumption
    )); done)
    )) ; (focus (first | rfl | assumption | omega)) ; (try dsimp only))
    ))
    )
  all_goals (conv => whnf)
  all_goals (try dsimp only)
  refine Name_call m fun H9 hg9 => ?_
  replace b06 := hg9.2 0 _ (by (first
        | ((repeat (first
        | assumption
        )); done)
        )) (by simp)
  replace bt6 := hg9.2 H3.length _ (by (first
        | ((repeat (first
        | assumption
        )); done)
        )) (by simp)
  replace bu6 := hg9.2 H5.length _ (by (first
        | ((repeat (first
        | assumption
        )); done)
        )) (by simp)
  skip
  all_goals (conv => whnf)
  all_goals (try dsimp only)
  refine RName_call m fun H10 hg10 => ?_
  replace b06 := hg10.2 0 _ (by (first
        | ((repeat (first
        | assumption
        )); done)
        )) (by simp)
  replace bt6 := hg10.2 H3.length _ (by (first
        | ((repeat (first
        | assumption
        )); done)
        )) (by simp)
  replace bu6 := hg10.2 H5.length _ (by (first
        | ((repeat (first
        | assumption
        )); done)
        )) (by simp)
  repeat' (first
    | ((with_reducible refine Side.intro ?_) <;> (first
    | exact Nat.le_of_ble_eq_true rfl
    ))
    | ((conv => whnf) <;> (first
    | (with_reducible refine and_side ?_ ?_)
    | (with_reducible refine Br.yes rfl ?_)
    | ((with_reducible apply blkAt_intro) ; (focus (first
    | ((repeat (first
    | assumption
    )); done)
    )) ; (focus (first | rfl | assumption | omega)) ; (try dsimp only))
    ))
    )
  all_goals (conv => whnf)
  all_goals (try dsimp only)
  refine SRight_call p s r o m b fun H11 hg11 => ?_
  replace b06 := hg11.2 0 _ (by (first
        | ((repeat (first
        | assumption
        )); done)
        )) (by simp)
  repeat' (first
    | (with_reducible exact Gr.side (by with_reducible assumption) _)
    | ((conv => whnf) <;> (first
    | (with_reducible refine and_side ?_ ?_)
    ))
    )
  all_goals (conv => whnf)
  all_goals (try dsimp only)
  refine SRRight_call p s r o m b fun H12 hg12 => ?_
  repeat' (first
    | ((with_reducible refine Side.intro ?_) <;> (first
    | (simp only [List.append_nil, List.nil_append, List.map_nil]; first | exact List.nodup_nil | exact nodup_bid1 _ | exact nodup_bid2 (by assumption))
    | ((first | refine fresh_tup ?_ | skip); (repeat (first |  exact FreshA.sl _ _ FreshA_bs | exact FreshA.sl _ _ FreshA_is | exact FreshA.nils | exact FreshA.nilp | exact FreshA.int _ _ | exact FreshA.bool _ | exact FreshA.str _ | exact fresh_nil | refine fresh_cons ?_ ?_ | with_reducible refine fresh_aggR ?_ | with_reducible refine fresh_agg ?_ | with_reducible exact fresh_nilA | with_reducible refine fresh_consA ?_ ?_)); done)
    ))
    | ((conv => whnf) <;> (first
    | (with_reducible refine and_side ?_ ?_)
    | (with_reducible refine Br.yes rfl ?_)
    | (with_reducible refine NOut.lit ?_)
    ))
    )
  all_goals (conv => whnf)
  all_goals (try dsimp only)
  all_goals first
    | exact ret_bool rfl
    | trace_state
end Go.Proofs.Ytjjmcpnbaahkgaa
