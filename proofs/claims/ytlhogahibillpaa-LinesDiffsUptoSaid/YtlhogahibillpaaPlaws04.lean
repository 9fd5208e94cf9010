import Derived.Test.YtlhogahibillpaaPlines2
import Derived.Test.YtlhogahibillpaaPlaw04
namespace Go.Proofs.Ytlhogahibillpaa
open Go Go.Proofs.Ytlhogahibillpaa.V
set_option maxRecDepth 20000
attribute [local irreducible] CallS AOK AOKn ALoop Side Ref.ok
theorem LinesDiffs_ok (s t : List UInt8) (hs : s.length ≤ 1048576) (ht : t.length ≤ 1048576) : AOKn Try.prog F.joistlaw04_LinesDiffs [.sl 1 (bs s) false, .sl 1 (bs t) false] fun y => y = .bool true := by
  have hn := bs_length s
  have hm := bs_length t
  refine AOKn.by_steps mixed fc_joistlaw04_LinesDiffs_ok (by simp [fc_joistlaw04_LinesDiffs]) ?_
  skip
  all_goals (conv => whnf)
  all_goals (try dsimp only)
  refine small_ok.call .nil ?_
  rintro _ x σ0 rfl _ hG
  obtain rfl := hG.flat_inv rfl (by intros; simp)
  skip
  all_goals (conv => whnf)
  all_goals (try dsimp only)
  refine Lent_val _ s false (by omega) _ ?_
  skip
  all_goals (conv => whnf)
  all_goals (try dsimp only)
  refine Lent_val _ t false (by omega) _ ?_
  have b1 : ((σ0 ++ [{ sz := 1, els := bs (s ++ [77]), gen := 0, wr := true, pure := true }]) ++ [{ sz := 1, els := bs (t ++ [77]), gen := 0, wr := true, pure := true }] : AH)[σ0.length]? = some { sz := 1, els := bs (s ++ [77]), gen := 0, wr := true, pure := true } := get_old get_new
  have b2 : ((σ0 ++ [{ sz := 1, els := bs (s ++ [77]), gen := 0, wr := true, pure := true }]) ++ [{ sz := 1, els := bs (t ++ [77]), gen := 0, wr := true, pure := true }] : AH)[(σ0 ++ [({ sz := 1, els := bs (s ++ [77]), gen := 0, wr := true, pure := true } : Blk)]).length]? = some { sz := 1, els := bs (t ++ [77]), gen := 0, wr := true, pure := true } := get_new
  generalize hidy : (σ0 ++ [({ sz := 1, els := bs (s ++ [77]), gen := 0, wr := true, pure := true } : Blk)]).length = iy at *
  have hne : σ0.length ≠ iy := by rw [← hidy]; simp
  generalize hix : σ0.length = ix at *
  generalize ((σ0 ++ [{ sz := 1, els := bs (s ++ [77]), gen := 0, wr := true, pure := true }]) ++ [{ sz := 1, els := bs (t ++ [77]), gen := 0, wr := true, pure := true }] : AH) = σ1 at *
  have hx : Own σ1 1 (.rsl ix 0 0 s.length none) (bs s) := .mk' (sp := bs [77]) b1 (by rw [bs_length]) (by rw [bs_append])
  have hy : Own σ1 1 (.rsl iy 0 0 t.length none) (bs t) := .mk' (sp := bs [77]) b2 (by rw [bs_length]) (by rw [bs_append])
  have hixl := (List.getElem?_eq_some_iff.1 b1).1
  have hiyl := (List.getElem?_eq_some_iff.1 b2).1
  skip
  all_goals (conv => whnf)
  all_goals (try dsimp only)
  refine Diff_call s t (by omega) (by omega) (Looks.ownbs hx) (Looks.ownbs hy) fun σ2 a xs hg2 ha hsp hoff han hxn => ?_
  replace b1 := hg2.2 _ _ b1 (by simp)
  replace b2 := hg2.2 _ _ b2 (by simp)
  replace hx := hx.keepN hg2
  replace hy := hy.keepN hg2
  have hl2 := hg2.1
  skip
  all_goals (conv => whnf)
  all_goals (try dsimp only)
  refine Kept_val _ s _ _ [] _ (by omega) b1 _ ?_
  skip
  all_goals (conv => whnf)
  all_goals (try dsimp only)
  refine Kept_val _ t _ _ [] _ (by omega) b2 _ ?_
  repeat' (first
    | ((with_reducible refine Side.intro ?_) <;> (first
    | omega
    | exact Nat.le_of_ble_eq_true rfl
    | exact rfl
    ))
    | ((conv => whnf) <;> (first
    | (with_reducible refine and_side ?_ ?_)
    ))
    )
  all_goals (conv => whnf)
  all_goals (try dsimp only)
  generalize hB : newB σ2 1 (((List.replicate 2 [AV.nils]).set 0 (AV.rsl ix 0 0 s.length none).cells).set 1 (AV.rsl iy 0 0 t.length none).cells) (allFlatL (((List.replicate 2 [AV.nils]).set 0 (AV.rsl ix 0 0 s.length none).cells).set 1 (AV.rsl iy 0 0 t.length none).cells)) = σ3
  have hg3 : Gr σ2 σ3 none := by rw [← hB]; exact Gr.append _ _
  have hr : σ3[σ2.length]? = some { sz := 1, els := [AV.rsl ix 0 0 s.length none, .rsl iy 0 0 t.length none].map fun x => [x], gen := 0, wr := true, pure := allFlatL (((List.replicate 2 [AV.nils]).set 0 (AV.rsl ix 0 0 s.length none).cells).set 1 (AV.rsl iy 0 0 t.length none).cells) } := by rw [← hB]; exact get_new
  refine Owned_own σ3 [.rsl ix 0 0 s.length none, .rsl iy 0 0 t.length none] σ2.length 0 _ true false hr ?_ ?_ ?_ (by simp) _ ?_
  · intro j z hj
    match j, hj with
    | 0, hj => simp at hj; subst hj; exact ⟨_, hx.keepN hg3⟩
    | 1, hj => simp at hj; subst hj; exact ⟨_, hy.keepN hg3⟩
  · intro j k z w hj hk hjk
    match j, k, hj, hk with
    | 0, 0, _, _ => omega
    | 0, 1, hj, hk => simp at hj hk; subst hj; subst hk; right; intro e; cases e; exact hne rfl
    | 1, 0, hj, hk => simp at hj hk; subst hj; subst hk; right; intro e; cases e; exact hne rfl
    | 1, 1, _, _ => omega
  · intro j z hj
    match j, hj with
    | 0, hj => simp at hj; subst hj; intro e; cases e; omega
    | 1, hj => simp at hj; subst hj; intro e; cases e; omega
  intro σ4 hE
  have hxne : ∀ id, σ1.length ≤ id → ∀ (j : Nat) (y : AV), [AV.rsl ix 0 0 s.length none, .rsl iy 0 0 t.length none][j]? = some y → y.bid ≠ some id := fun id hid j y hj e => by
    match j, hj with
    | 0, hj => simp at hj; subst hj; cases e; omega
    | 1, hj => simp at hj; subst hj; cases e; omega
  have ha4 : NestR σ4 2 a (crow ((dfL s t).map (·.1)) xs) := by
    rcases NestR.keepN hg3 ha with q | ⟨id, g, p, rfl, hb, hn⟩
    · exact .inl q
    · exact .inr ⟨id, g, p, rfl, hE.2 _ _ hb (fun j y hj => hxne id (han id rfl) j y hj), hn⟩
  have hsp4 : Sep σ4 xs ((dfL s t).map (·.2)) := by
    refine ⟨hsp.len, fun j x d h1 h2 => Own.els hE ((hsp.own j x d h1 h2).keepN hg3) fun k w hk => ?_, hsp.dis⟩
    cases hxb : x.bid with
    | none => exact .inl rfl
    | some id => exact .inr (hxne id (hxn x (List.mem_of_getElem? h1) id hxb) k w hk)
  have hdl : (dfL s t).length ≤ 1048576 := by
    unfold dfL
    split
    · simp
    · exact Nat.le_trans (diffs_le _ _ _) (by omega)
  skip
  all_goals (conv => whnf)
  all_goals (try dsimp only)
  refine (ref_Diff_ok s t (by omega) (by omega)).call (.cons (.bs _ _ _) (.cons (.bs _ _ _) .nil)) ?_
  rintro _ y1 σ5 rfl hg5 hG5
  obtain ⟨m, rfl, hm5⟩ : ∃ m, y1 = .tup [m, .int .i64 (dfE s t)] ∧ Own σ5 2 m (chg true (dfL s t)) := by
    by_cases hc : s.length ≠ t.length ∨ s.length % 64 ≠ 0
    · have hb : dfB s t = true := decide_eq_true hc
      rw [if_pos hc] at hG5
      obtain ⟨x, _, rfl, hx5, he, _⟩ := hG5.two
      obtain rfl := he.same_inv rfl
      obtain rfl := hx5.same_inv rfl
      exact ⟨.nils, by rw [dfE, hb]; rfl, by rw [dfL, hb]; exact Own.nil _ _⟩
    · have hb : dfB s t = false := decide_eq_false hc
      rw [if_neg hc] at hG5
      obtain ⟨x, _, rfl, hx5, he, _⟩ := hG5.two
      obtain rfl := he.same_inv rfl
      exact ⟨x, by rw [dfE, hb]; rfl, by rw [dfL, hb]; exact hx5.own_inv⟩
  have ha5 := NestR.keepN hg5 ha4
  have hsp5 := hsp4.keepN hg5
  skip
  all_goals (conv => whnf)
  all_goals (try dsimp only)
  refine (ref_Same_ok (dfL s t) (dfL s t) (by omega) (by omega)).call (.cons (NestR.looksC ha5 hsp5) (.cons (Looks.ownchg hm5) .nil)) ?_
  rintro _ r1 σ6 rfl hg6 hG6
  obtain rfl := hG6.flat_inv rfl (by intros; simp)
  rw [decide_eq_true rfl]
  skip
  all_goals (conv => whnf)
  all_goals (try dsimp only)
  refine Spoil_call (by rw [List.length_map]; omega) (by rw [hsp.len, List.length_map, List.length_map]) (NestR.keepN hg6 ha5) (hsp5.keepN hg6) _ fun σ7 => ?_
  repeat' (first
    | ((with_reducible refine Side.intro ?_) <;> (first
    | (simp only [List.append_nil, List.nil_append, List.map_nil]; first | exact List.nodup_nil | exact nodup_bid1 _ | exact nodup_bid2 (by assumption))
    | ((first | refine fresh_tup ?_ | skip); (repeat (first |  exact FreshA.sl _ _ FreshA_bs | exact FreshA.sl _ _ FreshA_is | exact FreshA.nils | exact FreshA.nilp | exact FreshA.int _ _ | exact FreshA.bool _ | exact FreshA.str _ | exact fresh_nil | refine fresh_cons ?_ ?_ | with_reducible refine fresh_aggR ?_ | with_reducible refine fresh_agg ?_ | with_reducible exact fresh_nilA | with_reducible refine fresh_consA ?_ ?_)); done)
    ))
    | ((conv => whnf) <;> (first
    | (with_reducible refine and_same ?_)
    | (with_reducible refine and_side ?_ ?_)
    | (with_reducible refine Br.yes rfl ?_)
    | (with_reducible refine NOut.lit ?_)
    ))
    )
  all_goals (conv => whnf)
  all_goals (try dsimp only)
  exact ret_bool rfl
end Go.Proofs.Ytlhogahibillpaa
