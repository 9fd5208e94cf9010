import Derived.Test.YtbmocdcfcdmmkaaPlaws08h
import Derived.Test.YtbmocdcfcdmmkaaPwplain
namespace Go.Proofs.Ytbmocdcfcdmmkaa
open Go Go.Proofs.Ytbmocdcfcdmmkaa.V
set_option maxRecDepth 20000
attribute [local irreducible] CallS AOK AOKn ALoop Side Ref.ok
theorem ww_get (l : List Sl) (j : Nat) (hj : j < 4) : ∀ (d i k : Nat), d = k - i → i ≤ k → k < l.length → (ww l i)[4 * (k - i) + j]? = (qw l k)[j]?
  | 0, i, k, hd, hik, hk => by
    have : i = k := by omega
    subst this
    rw [ww_step hk, Nat.sub_self, Nat.mul_zero, Nat.zero_add, List.getElem?_append_left (by simp [qw]; omega)]
  | d + 1, i, k, hd, hik, hk => by
    rw [ww_step (by omega), List.getElem?_append_right (by simp [qw]; omega)]
    have e : 4 * (k - i) + j - (qw l i).length = 4 * (k - (i + 1)) + j := by
      have : (qw l i).length = 4 := rfl
      omega
    rw [e]
    exact ww_get l j hj d (i + 1) k (by omega) (by omega) hk
theorem sk_ww {l : List Sl} (h : okL l = true) {k : Nat} (hk : k < l.length) : sk (ww l 0) k = gat l k := by
  have hS := okS_gat h hk
  have hg := okS_g hS
  have e0 : wd4 (ww l 0) (4 * k) = fl (gat l k) := by
    have := ww_get l 0 (by omega) k 0 k (by omega) (by omega) hk
    rw [Nat.sub_zero, Nat.add_zero] at this
    simp only [wd4, List.getD, this]; rfl
  have e1 : wd4 (ww l 0) (4 * k + 1) = (gat l k).a := by
    have := ww_get l 1 (by omega) k 0 k (by omega) (by omega) hk
    rw [Nat.sub_zero] at this
    simp only [wd4, List.getD, this]; rfl
  have e2 : wd4 (ww l 0) (4 * k + 2) = (gat l k).n := by
    have := ww_get l 2 (by omega) k 0 k (by omega) (by omega) hk
    rw [Nat.sub_zero] at this
    simp only [wd4, List.getD, this]; rfl
  unfold sk
  rw [e0, e1, e2]
  generalize gat l k = s at *
  obtain ⟨g, lv, tw, a, n⟩ := s
  dsimp only at hg
  unfold fl
  cases lv <;> cases tw
  all_goals
    simp only [Bool.false_eq_true, if_false, if_true, Sl.mk.injEq, and_true, decide_eq_true_eq, decide_eq_false_iff_not]
    refine ⟨by omega, by omega, by omega⟩
theorem rd_back {l : List Sl} (h : okL l = true) : rdL (btR l) = l ∧ rdOk (btR l) = true := by
  have hL := (okL_iff.1 h).2
  have e0 : btR l = cat (ww l 0) := by rw [btR, h, if_pos rfl]
  obtain ⟨a1, a2⟩ := all_cat (ww_may h)
  have hl := ww_length l l.length 0 rfl
  have e1 : rdL (btR l) = l := by
    rw [rdL, e0, a2, hl, show 4 * l.length / 4 = l.length from by omega]
    apply List.ext_getElem?
    intro i
    by_cases hi : i < l.length
    · rw [some_gat hi, rd, List.getElem?_map, List.getElem?_range hi, Option.map_some, sk_ww h hi]
    · rw [List.getElem?_eq_none (by rw [rd_length]; omega), List.getElem?_eq_none (by omega)]
  refine ⟨e1, ?_⟩
  have hbl := btR_length h
  exact (rdOk_yes (by omega) (by rw [e1]; exact h) (by rw [e1])).1
theorem rdOk_iff {s : List UInt8} : rdOk s = true ↔ (s.length ≤ 1024 ∧ okL (rdL s) = true ∧ btR (rdL s) = s) := by simp [rdOk]
set_option maxHeartbeats 4000000 in
theorem TableBack_ok (l : List Sl) (t : List UInt8) (hs : l.length ≤ 4611686018) (ht : t.length ≤ 4611686018) : AOKn Try.prog F.joistlaw08_TableBack [.sl 5 (ss l) false, .sl 1 (bs t) false] fun y => y = .bool true := by
  have hn := ss_length l
  have htn := bs_length t
  refine AOKn.by_steps mixed fc_joistlaw08_TableBack_ok (by simp [fc_joistlaw08_TableBack]) ?_
  have hff : ¬ (false ≠ false) := fun e => e rfl
  have htt : ¬ (true ≠ true) := fun e => e rfl
  skip
  all_goals (conv => whnf)
  all_goals (try dsimp only)
  refine small_call fun H0 hg0 => ?_
  skip
  all_goals (conv => whnf)
  all_goals (try dsimp only)
  refine Bytes8_call l hs (Looks.ss _ _ _) fun H1 x hg1 hx hn1 => ?_
  cases ho : okL l
  · rw [show btE l = 1 from by simp [btE, ho]]
    repeat' (first
      | ((conv => whnf) <;> (first
      | (with_reducible refine and_same ?_)
      | ((with_reducible apply Br.no) ; (focus omega))
      ))
      )
    all_goals (conv => whnf)
    all_goals (try dsimp only)
    refine Right_call l (by omega) (Looks.ss _ _ _) fun H2 hg2 => ?_
    rw [ho]
    repeat' (first
      | ((conv => whnf) <;> (first
      | (with_reducible refine and_same ?_)
      | ((with_reducible apply Br.no) ; (focus omega))
      ))
      )
    all_goals (conv => whnf)
    all_goals (try dsimp only)
    refine Read8_call t ht (.bs _ _ _) fun H3 mm hg3 hm hn3 => ?_
    cases hr : rdOk t
    · rw [show rdR t = [] from by rw [rdR, hr]; rfl] at hm
      have hz : (ss []).length = 0 := rfl
      repeat' (first
        | ((with_reducible refine Side.intro ?_) <;> (first
        | (simp only [List.append_nil, List.nil_append, List.map_nil]; first | exact List.nodup_nil | exact nodup_bid1 _ | exact nodup_bid2 (by assumption))
        | ((first | refine fresh_tup ?_ | skip); (repeat (first | exact fresh_ss _ |  exact FreshA.sl _ _ FreshA_bs | exact FreshA.sl _ _ FreshA_is | exact FreshA.nils | exact FreshA.nilp | exact FreshA.int _ _ | exact FreshA.bool _ | exact FreshA.str _ | exact fresh_nil | refine fresh_cons ?_ ?_ | with_reducible refine fresh_aggR ?_ | with_reducible refine fresh_agg ?_ | with_reducible exact fresh_nilA | with_reducible refine fresh_consA ?_ ?_)); done)
        ))
        | ((conv => whnf) <;> (first
        | (with_reducible refine and_same ?_)
        | (with_reducible refine and_side ?_ ?_)
        | (with_reducible refine Br.yes rfl ?_)
        | ((with_reducible apply lenR_own) ; (focus assumption))
        | (with_reducible refine NOut.lit ?_)
        ))
        )
      all_goals (conv => whnf)
      all_goals (try dsimp only)
      exact ret_bool rfl
    · obtain ⟨q1, q2, q3⟩ := rdOk_iff.1 hr
      rw [show rdR t = rdL t from by rw [rdR, hr, if_pos rfl]] at hm
      have hqL := (okL_iff.1 q2).2
      skip
      all_goals (conv => whnf)
      all_goals (try dsimp only)
      refine Bytes8_call (rdL t) (by omega) (Looks.ownss (hm.keepN (by (repeat (first
            | exact Gr.refl _ _
            ))))) fun H6 y hg6 hy hn6 => ?_
      rw [q3] at hy
      rw [show btE (rdL t) = 0 from by simp [btE, q2]]
      repeat' (first
        | ((conv => whnf) <;> (first
        | (with_reducible refine and_same ?_)
        | (with_reducible refine Br.yes rfl ?_)
        | ((with_reducible apply rowsR_own) ; (focus assumption))
        | (with_reducible refine rowsR_sl ?_)
        | ((with_reducible apply bytesR_intro) ; (focus (first | rfl | (simp only [bs_take, bs_drop, bs_append]; rfl))))
        ))
        )
      all_goals (conv => whnf)
      all_goals (try dsimp only)
      refine Right_call (rdL t) (by omega) (Looks.ownss (hm.keepN (by (repeat (first
            | assumption
            ))))) fun H7 hg7 => ?_
      rw [q2]
      repeat' (first
        | ((with_reducible refine Side.intro ?_) <;> (first
        | (simp only [List.append_nil, List.nil_append, List.map_nil]; first | exact List.nodup_nil | exact nodup_bid1 _ | exact nodup_bid2 (by assumption))
        | ((first | refine fresh_tup ?_ | skip); (repeat (first | exact fresh_ss _ |  exact FreshA.sl _ _ FreshA_bs | exact FreshA.sl _ _ FreshA_is | exact FreshA.nils | exact FreshA.nilp | exact FreshA.int _ _ | exact FreshA.bool _ | exact FreshA.str _ | exact fresh_nil | refine fresh_cons ?_ ?_ | with_reducible refine fresh_aggR ?_ | with_reducible refine fresh_agg ?_ | with_reducible exact fresh_nilA | with_reducible refine fresh_consA ?_ ?_)); done)
        ))
        | ((conv => whnf) <;> (first
        | (with_reducible refine and_side ?_ ?_)
        | (with_reducible refine NOut.lit ?_)
        ))
        )
      all_goals (conv => whnf)
      all_goals (try dsimp only)
      exact ret_bool rfl
  · rw [show btE l = 0 from by simp [btE, ho]]
    obtain ⟨r1, r2⟩ := rd_back ho
    have hL := (okL_iff.1 ho).2
    have hbl := btR_length ho
    repeat' (first
      | ((conv => whnf) <;> (first
      | (with_reducible refine and_same ?_)
      | (with_reducible refine Br.yes rfl ?_)
      ))
      )
    all_goals (conv => whnf)
    all_goals (try dsimp only)
    refine Right_call l (by omega) (Looks.ss _ _ _) fun H2 hg2 => ?_
    rw [ho]
    repeat' (first
      | ((conv => whnf) <;> (first
      | (with_reducible refine and_same ?_)
      | (with_reducible refine Br.yes rfl ?_)
      | ((with_reducible apply Br.no) ; (focus omega))
      ))
      )
    all_goals (conv => whnf)
    all_goals (try dsimp only)
    refine Read8_call (btR l) (by omega) (Looks.ownbs (hx.keepN (by (repeat (first
          | assumption
          ))))) fun H3 m3 hg3 hm3 hn3 => ?_
    rw [show rdR (btR l) = l from by rw [rdR, r2, if_pos rfl, r1]] at hm3
    rw [r2]
    skip
    all_goals (conv => whnf)
    all_goals (try dsimp only)
    refine TSame_call l hs (Looks.ss _ _ _) (Looks.ownss hm3) fun H4 hg4 => ?_
    skip
    all_goals (conv => whnf)
    all_goals (try dsimp only)
    refine Read8_call t ht (.bs _ _ _) fun H5 mm hg5 hm hn5 => ?_
    cases hr : rdOk t
    · rw [show rdR t = [] from by rw [rdR, hr]; rfl] at hm
      have hz : (ss []).length = 0 := rfl
      repeat' (first
        | ((with_reducible refine Side.intro ?_) <;> (first
        | (simp only [List.append_nil, List.nil_append, List.map_nil]; first | exact List.nodup_nil | exact nodup_bid1 _ | exact nodup_bid2 (by assumption))
        | ((first | refine fresh_tup ?_ | skip); (repeat (first | exact fresh_ss _ |  exact FreshA.sl _ _ FreshA_bs | exact FreshA.sl _ _ FreshA_is | exact FreshA.nils | exact FreshA.nilp | exact FreshA.int _ _ | exact FreshA.bool _ | exact FreshA.str _ | exact fresh_nil | refine fresh_cons ?_ ?_ | with_reducible refine fresh_aggR ?_ | with_reducible refine fresh_agg ?_ | with_reducible exact fresh_nilA | with_reducible refine fresh_consA ?_ ?_)); done)
        ))
        | ((conv => whnf) <;> (first
        | (with_reducible refine and_same ?_)
        | (with_reducible refine and_side ?_ ?_)
        | (with_reducible refine Br.yes rfl ?_)
        | ((with_reducible apply lenR_own) ; (focus assumption))
        | (with_reducible refine NOut.lit ?_)
        ))
        )
      all_goals (conv => whnf)
      all_goals (try dsimp only)
      exact ret_bool rfl
    · obtain ⟨q1, q2, q3⟩ := rdOk_iff.1 hr
      rw [show rdR t = rdL t from by rw [rdR, hr, if_pos rfl]] at hm
      have hqL := (okL_iff.1 q2).2
      skip
      all_goals (conv => whnf)
      all_goals (try dsimp only)
      refine Bytes8_call (rdL t) (by omega) (Looks.ownss (hm.keepN (by (repeat (first
            | exact Gr.refl _ _
            ))))) fun H6 y hg6 hy hn6 => ?_
      rw [q3] at hy
      rw [show btE (rdL t) = 0 from by simp [btE, q2]]
      repeat' (first
        | ((conv => whnf) <;> (first
        | (with_reducible refine and_same ?_)
        | (with_reducible refine Br.yes rfl ?_)
        | ((with_reducible apply rowsR_own) ; (focus assumption))
        | (with_reducible refine rowsR_sl ?_)
        | ((with_reducible apply bytesR_intro) ; (focus (first | rfl | (simp only [bs_take, bs_drop, bs_append]; rfl))))
        ))
        )
      all_goals (conv => whnf)
      all_goals (try dsimp only)
      refine Right_call (rdL t) (by omega) (Looks.ownss (hm.keepN (by (repeat (first
            | assumption
            ))))) fun H7 hg7 => ?_
      rw [q2]
      repeat' (first
        | ((with_reducible refine Side.intro ?_) <;> (first
        | (simp only [List.append_nil, List.nil_append, List.map_nil]; first | exact List.nodup_nil | exact nodup_bid1 _ | exact nodup_bid2 (by assumption))
        | ((first | refine fresh_tup ?_ | skip); (repeat (first | exact fresh_ss _ |  exact FreshA.sl _ _ FreshA_bs | exact FreshA.sl _ _ FreshA_is | exact FreshA.nils | exact FreshA.nilp | exact FreshA.int _ _ | exact FreshA.bool _ | exact FreshA.str _ | exact fresh_nil | refine fresh_cons ?_ ?_ | with_reducible refine fresh_aggR ?_ | with_reducible refine fresh_agg ?_ | with_reducible exact fresh_nilA | with_reducible refine fresh_consA ?_ ?_)); done)
        ))
        | ((conv => whnf) <;> (first
        | (with_reducible refine and_side ?_ ?_)
        | (with_reducible refine NOut.lit ?_)
        ))
        )
      all_goals (conv => whnf)
      all_goals (try dsimp only)
      exact ret_bool rfl
end Go.Proofs.Ytbmocdcfcdmmkaa
