import Derived.Test.YtbmocdcfcdmmkaaPlaws08i
import Derived.Test.YtbmocdcfcdmmkaaPlaws08k
namespace Go.Proofs.Ytbmocdcfcdmmkaa
open Go Go.Proofs.Ytbmocdcfcdmmkaa.V
set_option maxRecDepth 20000
attribute [local irreducible] CallS AOK AOKn ALoop Side Ref.ok
theorem all2 {x y : AV} {p : AV → Prop} (hx : p x) (hy : p y) : ∀ (j : Nat) (a : AV), [x, y][j]? = some a → p a := by
  intro j a hj
  match j, hj with
  | 0, hj => simp at hj; subst hj; exact hx
  | 1, hj => simp at hj; subst hj; exact hy
theorem disj2 {x y : AV} (h1 : x.bid = none ∨ x.bid ≠ y.bid) :
    ∀ (j k : Nat) (a b : AV), [x, y][j]? = some a → [x, y][k]? = some b → j ≠ k → a.bid = none ∨ a.bid ≠ b.bid := by
  intro j k a b hj hk hjk
  match j, k, hj, hk with
  | 0, 0, _, _ => omega
  | 1, 1, _, _ => omega
  | 0, 1, hj, hk => simp at hj hk; subst hj; subst hk; exact h1
  | 1, 0, hj, hk => simp at hj hk; subst hj; subst hk; exact disj_symm h1
theorem bid_ne {σ : AH} {sz : Nat} {x : AV} {rows : List (List AV)} (hx : Own σ sz x rows) {id : Nat} (h : σ.length ≤ id) : x.bid ≠ some id := fun e => by
  have := hx.lt e
  omega
set_option maxHeartbeats 4000000 in
theorem TableCodes_ok (l : List Sl) (t : List UInt8) (hs : l.length ≤ 4611686018) (ht : t.length ≤ 4611686018) : AOKn Try.prog F.joistlaw08_TableCodes [.sl 5 (ss l) false, .sl 1 (bs t) false] fun y => y = .bool true := by
  have hn := ss_length l
  have htn := bs_length t
  have hrl : (rdR t).length ≤ 4611686018 := by
    unfold rdR
    split
    · rw [rdL, rd_length]
      have := allR_length t
      omega
    · simp
  refine AOKn.by_steps mixed fc_joistlaw08_TableCodes_ok (by simp [fc_joistlaw08_TableCodes]) ?_
  skip
  all_goals (conv => whnf)
  all_goals (try dsimp only)
  refine small_call fun H0 hg0 => ?_
  skip
  all_goals (conv => whnf)
  all_goals (try dsimp only)
  refine Lent_val _ t false (by omega) _ ?_
  generalize hσ : H0 ++ [{ sz := 1, els := bs (t ++ [77]), gen := 0, wr := true, pure := true }] = H1
  have hblk : H1[H0.length]? = some { sz := 1, els := bs (t ++ [77]), gen := 0, wr := true, pure := true } := by rw [← hσ]; exact get_new
  have hin : Own H1 1 (.rsl H0.length 0 0 t.length none) (bs t) := .mk' (sp := bs [77]) hblk (by rw [bs_length]) (by rw [bs_append])
  skip
  all_goals (conv => whnf)
  all_goals (try dsimp only)
  refine Bytes8_call l hs (Looks.ss _ _ _) fun H2 x hg2 hx hxn => ?_
  have d2 := disj_symm (disj_new hin hxn)
  replace hin := hin.keepN hg2
  replace hblk := hg2.2 H0.length _ (by (first
        | ((repeat (first
        | assumption
        )); done)
        )) (by simp)
  skip
  all_goals (conv => whnf)
  all_goals (try dsimp only)
  refine Read8_call t ht (.ownbs hin) fun H3 mm hg3 hm hmn => ?_
  replace hin := hin.keepN hg3
  replace hx := hx.keepN hg3
  replace hblk := hg3.2 H0.length _ (by (first
        | ((repeat (first
        | assumption
        )); done)
        )) (by simp)
  skip
  all_goals (conv => whnf)
  all_goals (try dsimp only)
  refine Kept_val _ t _ _ [] _ (by omega) (by (first
        | ((repeat (first
        | assumption
        )); done)
        )) _ ?_
  skip
  all_goals (conv => whnf)
  all_goals (try dsimp only)
  refine RBytes8_call l hs (Looks.ss _ _ _) fun H4 y hg4 hy hyn => ?_
  replace hin := hin.keepN hg4
  replace hx := hx.keepN hg4
  replace hm := hm.keepN hg4
  skip
  all_goals (conv => whnf)
  all_goals (try dsimp only)
  refine RRead8_call t ht (.bs _ _ _) fun H5 nn hg5 hnn hn5 => ?_
  replace hin := hin.keepN hg5
  replace hx := hx.keepN hg5
  replace hm := hm.keepN hg5
  replace hy := hy.keepN hg5
  repeat' (first
    | ((conv => whnf) <;> (first
    | (with_reducible refine Br.yes rfl ?_)
    | ((with_reducible apply rowsR_own) ; (focus assumption))
    | ((with_reducible apply bytesR_intro) ; (focus (first | rfl | (simp only [bs_take, bs_drop, bs_append]; rfl))))
    ))
    )
  all_goals (conv => whnf)
  all_goals (try dsimp only)
  refine TSame_call (rdR t) hrl (Looks.ownss hm) (Looks.ownss hnn) fun H6 hg6 => ?_
  replace hin := hin.keepN hg6
  replace hx := hx.keepN hg6
  obtain ⟨hxc, hxo, hx1⟩ := hx.one
  repeat' (first
    | ((with_reducible refine Side.intro ?_) <;> (first
    | omega
    | exact Nat.le_of_ble_eq_true rfl
    | exact rfl
    ))
    | ((conv => whnf) <;> (first
    | (with_reducible refine and_side ?_ ?_)
    ))
    )
  all_goals (conv => whnf)
  all_goals (try dsimp only)
  rw [hxc]
  refine Owned_own (newB _ 1 (List.map (fun x => [x]) [x, .rsl H0.length 0 0 t.length none]) _) [x, .rsl H0.length 0 0 t.length none] _ 0 _ true false get_new (all2 ⟨_, hx.keepN (by (repeat (first
        | exact Gr.refl _ _
        | refine Gr.addN ?_ _
        )))⟩ ⟨_, hin.keepN (by (repeat (first
        | exact Gr.refl _ _
        | refine Gr.addN ?_ _
        )))⟩) (disj2 d2) (all2 (not_new hx) (not_new hin)) (by simp) _ ?_
  intro H7 hE
  repeat' (first
    | ((with_reducible refine Side.intro ?_) <;> (first
    | (simp only [List.append_nil, List.nil_append, List.map_nil]; first | exact List.nodup_nil | exact nodup_bid1 _ | exact nodup_bid2 (by assumption))
    | ((first | refine fresh_tup ?_ | skip); (repeat (first | exact fresh_ss _ |  exact FreshA.sl _ _ FreshA_bs | exact FreshA.sl _ _ FreshA_is | exact FreshA.nils | exact FreshA.nilp | exact FreshA.int _ _ | exact FreshA.bool _ | exact FreshA.str _ | exact fresh_nil | refine fresh_cons ?_ ?_ | with_reducible refine fresh_aggR ?_ | with_reducible refine fresh_agg ?_ | with_reducible exact fresh_nilA | with_reducible refine fresh_consA ?_ ?_)); done)
    ))
    | ((conv => whnf) <;> (first
    | (with_reducible refine and_same ?_)
    | (with_reducible refine and_side ?_ ?_)
    | (with_reducible refine Br.yes rfl ?_)
    | (with_reducible refine NOut.lit ?_)
    ))
    )
  all_goals (conv => whnf)
  all_goals (try dsimp only)
  all_goals first
    | exact ret_bool rfl
    | trace_state
end Go.Proofs.Ytbmocdcfcdmmkaa
