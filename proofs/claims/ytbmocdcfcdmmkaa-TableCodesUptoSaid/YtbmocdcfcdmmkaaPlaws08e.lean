import Derived.Test.YtbmocdcfcdmmkaaPlaws08c
namespace Go.Proofs.Ytbmocdcfcdmmkaa
open Go Go.Proofs.Ytbmocdcfcdmmkaa.V
set_option maxRecDepth 20000
attribute [local irreducible] CallS AOK AOKn ALoop Side Ref.ok
theorem Gr.boxN (σ : AH) (sz : Nat) (els : List (List AV)) (p : Bool) (b : Blk) : Gr σ ((newB σ sz els p).set σ.length b) none := Gr.setNew (Gr.newN (Gr.refl _ _) _ _ _) (Nat.le_refl _) b
structure Ac where
  d : Int
  s : Sl
  k : Int
abbrev Ac.row (c : Ac) : List AV := [.int .i64 c.d, .int .i64 c.s.g, .bool c.s.lv, .bool c.s.tw, .int .i64 c.s.a, .int .i64 c.s.n, .int .i64 c.k]
def acs (l : List Ac) : List (List AV) := l.map fun c => c.row
theorem acs_length (l : List Ac) : (acs l).length = l.length := by simp [acs]
theorem nthR_ac {l : List Ac} {j : Nat} {K : List AV → Prop} {d g a n k : Int} {lv tw : Bool} (h : l[j]? = some ⟨d, ⟨g, lv, tw, a, n⟩, k⟩) (hk : K [.int .i64 d, .int .i64 g, .bool lv, .bool tw, .int .i64 a, .int .i64 n, .int .i64 k]) : nthR (acs l) j K :=
  nthR_intro (x := Ac.row ⟨d, ⟨g, lv, tw, a, n⟩, k⟩) (by simp [acs, h]) hk
/-- What is told of a table behind a handle that was freed. -/
structure Gone (L : List Sl) (i g : Int) : Prop where
  ok : okL L = true
  lo : 0 ≤ i
  hi : i < L.length
  gen : g < (gat L i.toNat).g
theorem Gone.find {L : List Sl} {i g : Int} (h : Gone L i g) : findOk L i g = false := by
  have := h.gen
  simp only [findOk, Bool.and_eq_false_iff, decide_eq_false_iff_not]
  right; right; omega
theorem Gone.take {L : List Sl} {i g : Int} (h : Gone L i g) {s : Sl} (ht : tkOk L s = true) : Gone (tkR L s) i g ∧ ¬ (tkI L s = i ∧ tkG L s = g ∧ True) := by
  obtain ⟨h1, h2, h3⟩ := tkOk_iff.1 ht
  obtain ⟨h4, h5⟩ := nxt_lt h2
  have e1 : tkR L s = L.set (nxtV L) (tkS L s) := by simp [tkR, ht]
  have e2 : tkI L s = (nxtV L : Nat) := by simp [tkI, ht]
  have e3 : tkG L s = (gat L (nxtV L)).g := by simp [tkG, ht, tkS, fill]
  have h6 := h.gen
  have h7 := h.lo
  have h8 := h.hi
  refine ⟨⟨tkR_ok ht, h.lo, by rw [e1, List.length_set]; exact h.hi, ?_⟩, ?_⟩
  · rw [e1]
    by_cases e : nxtV L = i.toNat
    · rw [← e, gat_set_eq h4]
      rw [← e] at h6
      exact h6
    · rw [gat_set_ne e]; exact h6
  · rintro ⟨q1, q2, _⟩
    rw [e2] at q1
    rw [e3] at q2
    have : nxtV L = i.toNat := by omega
    rw [this] at q2
    omega
theorem Gone.free {L : List Sl} {i g : Int} (h : Gone L i g) {k : Int} (ht : frOk L k = true) : Gone (frR L k) i g := by
  obtain ⟨h1, h2, h3⟩ := frOk_iff.1 ht
  have e1 : frR L k = L.set k.toNat (frS L k) := by simp [frR, ht]
  have h6 := h.gen
  have h7 := h.lo
  have h8 := h.hi
  have h9 := okS_g (okS_gat h1 (k := i.toNat) (by omega))
  refine ⟨frR_ok ht, h.lo, by rw [e1, List.length_set]; exact h.hi, ?_⟩
  rw [e1]
  by_cases e : k.toNat = i.toNat
  · rw [← e, gat_set_eq (by omega)]
    rw [← e] at h6 h9
    show g < min ((gat L k.toNat).g + 1) 65535
    omega
  · rw [gat_set_ne e]; exact h6
theorem Gone.first {L : List Sl} {i g : Int} (hf : findOk L i g = true) (ht : frOk L (findV L i g) = true) (hg : g ≠ 65535) : Gone (frR L (findV L i g)) i g := by
  have ev : findV L i g = i := by simp [findV, hf]
  rw [ev] at ht ⊢
  obtain ⟨h1, h2, h3⟩ := frOk_iff.1 ht
  simp only [findOk, Bool.and_eq_true, decide_eq_true_eq] at hf
  obtain ⟨_, _, h4⟩ := hf
  have e1 : frR L i = L.set i.toNat (frS L i) := by simp [frR, ht]
  have h9 := okS_g (okS_gat h1 (k := i.toNat) (by omega))
  refine ⟨frR_ok ht, h2.1, by rw [e1, List.length_set]; exact h2.2, ?_⟩
  rw [e1, gat_set_eq (by omega)]
  show g < min ((gat L i.toNat).g + 1) 65535
  omega
theorem tkE_ne {L : List Sl} {s : Sl} (h : tkOk L s = false) : tkE L s ≠ 0 := by
  unfold tkE
  rw [h]
  simp only [Bool.false_eq_true, if_false]
  split <;> simp
set_option maxHeartbeats 4000000 in
theorem TableStale_ok (l : List Sl) (i g : Int) (A : List Ac) (hs : l.length ≤ 4611686018) (hA : A.length ≤ 4611686018) : AOKn Try.prog F.joistlaw08_TableStale [.sl 5 (ss l) false, hav i g, .sl 7 (acs A) false] fun y => y = .bool true := by
  have hn := ss_length l
  have han := acs_length A
  refine AOKn.by_steps mixed fc_joistlaw08_TableStale_ok (by simp [fc_joistlaw08_TableStale]) ?_
  unfold hav
  repeat' (first
    | ((with_reducible refine Side.intro ?_) <;> (first
    | exact rfl
    ))
    | ((conv => whnf) <;> (first
    | (with_reducible refine and_side ?_ ?_)
    ))
    )
  all_goals (conv => whnf)
  all_goals (try dsimp only)
  refine small_call fun H0 hg0 => ?_
  have b0 := hg0.2 0 _ rfl (by simp)
  repeat' (first
    | ((with_reducible refine Side.intro ?_) <;> (first
    | exact Nat.le_of_ble_eq_true rfl
    ))
    | ((conv => whnf) <;> (first
    | (with_reducible refine and_side ?_ ?_)
    | ((with_reducible apply blkAt_intro) ; (focus (first
    | ((repeat (first
    | assumption
    )); done)
    )) ; (focus (first | rfl | assumption | omega)) ; (try dsimp only))
    ))
    )
  all_goals (conv => whnf)
  all_goals (try dsimp only)
  refine Find_call l i g (by omega) (Looks.ss _ _ _) fun H1 hg1 => ?_
  replace b0 := hg1.2 0 _ (by (first
        | ((repeat (first
        | assumption
        )); done)
        )) (by simp)
  skip
  all_goals (conv => whnf)
  all_goals (try dsimp only)
  refine Free_call l (findV l i g) hs (Looks.ss _ _ _) fun H2 m hg2 hm hn2 => ?_
  replace b0 := hg2.2 0 _ (by (first
        | ((repeat (first
        | assumption
        )); done)
        )) (by simp)
  cases hf : findOk l i g
  · repeat' (first
      | ((with_reducible refine Side.intro ?_) <;> (first
      | (simp only [List.append_nil, List.nil_append, List.map_nil]; first | exact List.nodup_nil | exact nodup_bid1 _ | exact nodup_bid2 (by assumption))
      | ((first | refine fresh_tup ?_ | skip); (repeat (first |  exact FreshA.sl _ _ FreshA_bs | exact FreshA.sl _ _ FreshA_is | exact FreshA.nils | exact FreshA.nilp | exact FreshA.int _ _ | exact FreshA.bool _ | exact FreshA.str _ | exact fresh_nil | refine fresh_cons ?_ ?_ | with_reducible refine fresh_aggR ?_ | with_reducible refine fresh_agg ?_ | with_reducible exact fresh_nilA | with_reducible refine fresh_consA ?_ ?_)); done)
      ))
      | ((conv => whnf) <;> (first
      | (with_reducible refine and_side ?_ ?_)
      | (with_reducible refine NOut.lit ?_)
      ))
      )
    all_goals (conv => whnf)
    all_goals (try dsimp only)
    exact ret_bool rfl
  cases ht : frOk l (findV l i g)
  · rw [show frE l (findV l i g) = 1 from by simp [frE, ht]]
    repeat' (first
      | ((with_reducible refine Side.intro ?_) <;> (first
      | (simp only [List.append_nil, List.nil_append, List.map_nil]; first | exact List.nodup_nil | exact nodup_bid1 _ | exact nodup_bid2 (by assumption))
      | ((first | refine fresh_tup ?_ | skip); (repeat (first |  exact FreshA.sl _ _ FreshA_bs | exact FreshA.sl _ _ FreshA_is | exact FreshA.nils | exact FreshA.nilp | exact FreshA.int _ _ | exact FreshA.bool _ | exact FreshA.str _ | exact fresh_nil | refine fresh_cons ?_ ?_ | with_reducible refine fresh_aggR ?_ | with_reducible refine fresh_agg ?_ | with_reducible exact fresh_nilA | with_reducible refine fresh_consA ?_ ?_)); done)
      ))
      | ((conv => whnf) <;> (first
      | (with_reducible refine and_same ?_)
      | (with_reducible refine and_side ?_ ?_)
      | (with_reducible refine Br.yes (by omega) ?_)
      | (with_reducible refine NOut.lit ?_)
      ))
      )
    all_goals (conv => whnf)
    all_goals (try dsimp only)
    exact ret_bool rfl
  rw [show frE l (findV l i g) = 0 from by simp [frE, ht]]
  by_cases hg : g = 65535
  · repeat' (first
      | ((with_reducible refine Side.intro ?_) <;> (first
      | (simp only [List.append_nil, List.nil_append, List.map_nil]; first | exact List.nodup_nil | exact nodup_bid1 _ | exact nodup_bid2 (by assumption))
      | ((first | refine fresh_tup ?_ | skip); (repeat (first |  exact FreshA.sl _ _ FreshA_bs | exact FreshA.sl _ _ FreshA_is | exact FreshA.nils | exact FreshA.nilp | exact FreshA.int _ _ | exact FreshA.bool _ | exact FreshA.str _ | exact fresh_nil | refine fresh_cons ?_ ?_ | with_reducible refine fresh_aggR ?_ | with_reducible refine fresh_agg ?_ | with_reducible exact fresh_nilA | with_reducible refine fresh_consA ?_ ?_)); done)
      ))
      | ((conv => whnf) <;> (first
      | (with_reducible refine and_same ?_)
      | (with_reducible refine and_side ?_ ?_)
      | (with_reducible refine Br.yes (by omega) ?_)
      | (with_reducible refine Br.no (by omega) ?_)
      | ((with_reducible apply blkAt_intro) ; (focus (first
      | ((repeat (first
      | assumption
      )); done)
      )) ; (focus (first | rfl | assumption | omega)) ; (try dsimp only))
      | (with_reducible refine NOut.lit ?_)
      ))
      )
    all_goals (conv => whnf)
    all_goals (try dsimp only)
    all_goals exact ret_bool rfl
  have hgone := Gone.first hf ht hg
  generalize frR l (findV l i g) = L0 at *
  repeat' (first
    | ((conv => whnf) <;> (first
    | (with_reducible refine and_same ?_)
    | (with_reducible refine Br.no (by omega) ?_)
    | ((with_reducible apply blkAt_intro) ; (focus (first
    | ((repeat (first
    | assumption
    )); done)
    )) ; (focus (first | rfl | assumption | omega)) ; (try dsimp only))
    ))
    )
  all_goals (conv => whnf)
  all_goals (try dsimp only)
  refine loop_at (α := Nat × AH × AV × List Sl) (fun a => [(10, a.2.2.1), (12, .int .i64 a.1)]) (fun a => a.2.1) (fun a => a.1 ≤ A.length ∧ Gone a.2.2.2 i g ∧ Own a.2.1 5 a.2.2.1 (ss a.2.2.2) ∧ a.2.1[0]? = some { sz := 2, els := [(AV.agg [AV.int .i64 i, AV.int .i64 g]).cells], gen := 0, wr := true, pure := allFlat (AV.agg [AV.int .i64 i, AV.int .i64 g]).cells }) (fun a => A.length - a.1) (0, H2, m, L0) ⟨by dsimp only; omega, hgone, hm, b0⟩ rfl rfl ?_
  clear hgone hm b0 hg0 hg1 hg2 hn2
  rintro ⟨j, σ, x, L⟩ ⟨hj, hgo, hx, b0⟩
  dsimp only at hj hgo hx b0 ⊢
  have hLn := ss_length L
  have hL := (okL_iff.1 hgo.ok).2
  by_cases hlt : j < A.length ∧ j < 200
  · obtain ⟨⟨d, ⟨sg, slv, stw, sa, sn⟩, k⟩, hp, hp'⟩ := getN hlt.1
    have lx := (List.getElem?_eq_some_iff.1 b0).1
    by_cases hd : d = 0
    · repeat' (first
        | ((with_reducible refine Side.intro ?_) <;> (first
        | omega
        | exact Nat.le_of_ble_eq_true rfl
        | exact rfl
        ))
        | ((conv => whnf) <;> (first
        | (with_reducible refine and_same ?_)
        | (with_reducible refine and_side ?_ ?_)
        | (with_reducible refine Br.yes (by omega) ?_)
        | ((with_reducible apply blkAt_intro) ; (focus (first
        | ((repeat (first
        | exact get_new
        | exact get_set get_new
        )); done)
        )) ; (focus (first | rfl | assumption | omega)) ; (try dsimp only))
        | (with_reducible refine nthR_ac (by assumption) ?_)
        | (with_reducible refine ia_sl ?_ ?_)
        | (with_reducible refine lenR_sl ?_)
        ))
        )
      all_goals (conv => whnf)
      all_goals (try dsimp only)
      refine Take_call L ⟨sg, slv, stw, sa, sn⟩ (by omega) (Looks.ownss (hx.keepN (by (repeat (first
            | exact Gr.refl _ _
            | with_reducible refine Gr.trans ?_ (Gr.boxN _ _ _ _ _)
            ))))) fun H3 y hg3 hy hn3 => ?_
      replace b0 := hg3.2 0 _ (by (first
            | ((repeat (first
            | assumption
            | apply get_old
            | (apply get_set_ne; (focus (first | omega | (simp only [newB_length, List.length_set, List.length_append, List.length_singleton, List.length_nil]; omega))))
            )); done)
            )) (by simp)
      have l3 := (List.getElem?_eq_some_iff.1 b0).1
      cases htk : tkOk L ⟨sg, slv, stw, sa, sn⟩
      · have hne := tkE_ne htk
        unfold hav
        repeat' (first
          | ((with_reducible refine Side.intro ?_) <;> (first
          | exact Nat.le_of_ble_eq_true rfl
          | exact rfl
          ))
          | ((conv => whnf) <;> (first
          | (with_reducible refine and_same ?_)
          | (with_reducible refine and_side ?_ ?_)
          | (with_reducible refine Br.no (by omega) ?_)
          | ((with_reducible apply blkAt_intro) ; (focus (first
          | ((repeat (first
          | assumption
          | exact get_new
          | apply get_old
          | (apply get_set_ne; (focus (first | omega | (simp only [newB_length, List.length_set, List.length_append, List.length_singleton, List.length_nil]; omega))))
          )); done)
          )) ; (focus (first | rfl | assumption | omega)) ; (try dsimp only))
          ))
          )
        all_goals (conv => whnf)
        all_goals (try dsimp only)
        refine Find_call L i g (by omega) (Looks.ownss (hx.keepN (by (repeat (first
              | exact Gr.refl _ _
              | with_reducible refine Gr.trans ?_ (Gr.boxN _ _ _ _ _)
              | refine Gr.trans ?_ (by assumption)
              ))))) fun H4 hg4 => ?_
        replace b0 := hg4.2 0 _ (by (first
              | ((repeat (first
              | assumption
              | apply get_old
              | (apply get_set_ne; (focus (first | omega | (simp only [newB_length, List.length_set, List.length_append, List.length_singleton, List.length_nil]; omega))))
              )); done)
              )) (by simp)
        rw [hgo.find]
        skip
        all_goals (conv => whnf)
        all_goals (try dsimp only)
        refine Right_call L (by omega) (Looks.ownss (hx.keepN (by (repeat (first
              | exact Gr.refl _ _
              | with_reducible refine Gr.trans ?_ (Gr.boxN _ _ _ _ _)
              | refine Gr.trans ?_ (by assumption)
              ))))) fun H5 hg5 => ?_
        replace b0 := hg5.2 0 _ (by (first
              | ((repeat (first
              | assumption
              )); done)
              )) (by simp)
        rw [hgo.ok]
        repeat' (first
          | ((conv => whnf) <;> (first
          | (with_reducible refine and_same ?_)
          | (with_reducible refine Br.yes (by omega) ?_)
          ))
          )
        all_goals (conv => whnf)
        all_goals (try dsimp only)
        exact ⟨(j + 1, _, x, L), rfl, rfl, ⟨by dsimp only; omega, hgo, hx.keepN (by (repeat (first
              | exact Gr.refl _ _
              | with_reducible refine Gr.trans ?_ (Gr.boxN _ _ _ _ _)
              | refine Gr.trans ?_ (by assumption)
              ))), b0⟩, by dsimp only; omega⟩
      · obtain ⟨hgo2, hno⟩ := hgo.take htk
        have e2 : tkE L ⟨sg, slv, stw, sa, sn⟩ = 0 := by simp [tkE, htk]
        have hll := tkR_length L ⟨sg, slv, stw, sa, sn⟩
        rw [e2]
        unfold hav
        repeat' (first
          | ((with_reducible refine Side.intro ?_) <;> (first
          | exact Nat.le_of_ble_eq_true rfl
          | exact rfl
          ))
          | ((conv => whnf) <;> (first
          | (with_reducible refine and_same ?_)
          | (with_reducible refine and_side ?_ ?_)
          | (with_reducible refine Br.yes rfl ?_)
          | (with_reducible refine Br.no (by omega) ?_)
          | ((with_reducible apply blkAt_intro) ; (focus (first
          | ((repeat (first
          | assumption
          | exact get_new
          | exact get_set get_new
          | apply get_old
          | (apply get_set_ne; (focus (first | omega | (simp only [newB_length, List.length_set, List.length_append, List.length_singleton, List.length_nil]; omega))))
          )); done)
          )) ; (focus (first | rfl | assumption | omega)) ; (try dsimp only))
          ))
          )
        all_goals (conv => whnf)
        all_goals (try dsimp only)
        refine Find_call (tkR L ⟨sg, slv, stw, sa, sn⟩) i g (by omega) (Looks.ownss (hy.keepN (by (repeat (first
              | exact Gr.refl _ _
              | with_reducible refine Gr.trans ?_ (Gr.boxN _ _ _ _ _)
              ))))) fun H4 hg4 => ?_
        replace b0 := hg4.2 0 _ (by (first
              | ((repeat (first
              | assumption
              | apply get_old
              | (apply get_set_ne; (focus (first | omega | (simp only [newB_length, List.length_set, List.length_append, List.length_singleton, List.length_nil]; omega))))
              )); done)
              )) (by simp)
        rw [hgo2.find]
        skip
        all_goals (conv => whnf)
        all_goals (try dsimp only)
        refine Right_call (tkR L ⟨sg, slv, stw, sa, sn⟩) (by omega) (Looks.ownss (hy.keepN (by (repeat (first
              | exact Gr.refl _ _
              | with_reducible refine Gr.trans ?_ (Gr.boxN _ _ _ _ _)
              | refine Gr.trans ?_ (by assumption)
              ))))) fun H5 hg5 => ?_
        replace b0 := hg5.2 0 _ (by (first
              | ((repeat (first
              | assumption
              )); done)
              )) (by simp)
        rw [hgo2.ok]
        repeat' (first
          | ((conv => whnf) <;> (first
          | (with_reducible refine and_same ?_)
          | (with_reducible refine Br.yes (by omega) ?_)
          ))
          )
        all_goals (conv => whnf)
        all_goals (try dsimp only)
        exact ⟨(j + 1, _, y, (tkR L ⟨sg, slv, stw, sa, sn⟩)), rfl, rfl, ⟨by dsimp only; omega, hgo2, hy.keepN (by (repeat (first
              | exact Gr.refl _ _
              | with_reducible refine Gr.trans ?_ (Gr.boxN _ _ _ _ _)
              | refine Gr.trans ?_ (by assumption)
              ))), b0⟩, by dsimp only; omega⟩
    · repeat' (first
        | ((with_reducible refine Side.intro ?_) <;> (first
        | omega
        | exact Nat.le_of_ble_eq_true rfl
        | exact rfl
        ))
        | ((conv => whnf) <;> (first
        | (with_reducible refine and_same ?_)
        | (with_reducible refine and_side ?_ ?_)
        | (with_reducible refine Br.yes (by omega) ?_)
        | (with_reducible refine Br.no (by omega) ?_)
        | ((with_reducible apply blkAt_intro) ; (focus (first
        | ((repeat (first
        | exact get_new
        | exact get_set get_new
        )); done)
        )) ; (focus (first | rfl | assumption | omega)) ; (try dsimp only))
        | (with_reducible refine nthR_ac (by assumption) ?_)
        | (with_reducible refine ia_sl ?_ ?_)
        | (with_reducible refine lenR_sl ?_)
        ))
        )
      all_goals (conv => whnf)
      all_goals (try dsimp only)
      refine Free_call L k (by omega) (Looks.ownss (hx.keepN (by (repeat (first
            | exact Gr.refl _ _
            | with_reducible refine Gr.trans ?_ (Gr.boxN _ _ _ _ _)
            ))))) fun H3 y hg3 hy hn3 => ?_
      replace b0 := hg3.2 0 _ (by (first
            | ((repeat (first
            | assumption
            | apply get_old
            | (apply get_set_ne; (focus (first | omega | (simp only [newB_length, List.length_set, List.length_append, List.length_singleton, List.length_nil]; omega))))
            )); done)
            )) (by simp)
      have l3 := (List.getElem?_eq_some_iff.1 b0).1
      cases hfr : frOk L k
      · rw [show frE L k = 1 from by simp [frE, hfr]]
        repeat' (first
          | ((with_reducible refine Side.intro ?_) <;> (first
          | exact Nat.le_of_ble_eq_true rfl
          ))
          | ((conv => whnf) <;> (first
          | (with_reducible refine and_same ?_)
          | (with_reducible refine and_side ?_ ?_)
          | (with_reducible refine Br.no (by omega) ?_)
          | ((with_reducible apply blkAt_intro) ; (focus (first
          | ((repeat (first
          | assumption
          )); done)
          )) ; (focus (first | rfl | assumption | omega)) ; (try dsimp only))
          ))
          )
        all_goals (conv => whnf)
        all_goals (try dsimp only)
        refine Find_call L i g (by omega) (Looks.ownss (hx.keepN (by (repeat (first
              | exact Gr.refl _ _
              | with_reducible refine Gr.trans ?_ (Gr.boxN _ _ _ _ _)
              | refine Gr.trans ?_ (by assumption)
              ))))) fun H4 hg4 => ?_
        replace b0 := hg4.2 0 _ (by (first
              | ((repeat (first
              | assumption
              )); done)
              )) (by simp)
        rw [hgo.find]
        skip
        all_goals (conv => whnf)
        all_goals (try dsimp only)
        refine Right_call L (by omega) (Looks.ownss (hx.keepN (by (repeat (first
              | exact Gr.refl _ _
              | with_reducible refine Gr.trans ?_ (Gr.boxN _ _ _ _ _)
              | refine Gr.trans ?_ (by assumption)
              ))))) fun H5 hg5 => ?_
        replace b0 := hg5.2 0 _ (by (first
              | ((repeat (first
              | assumption
              )); done)
              )) (by simp)
        rw [hgo.ok]
        repeat' (first
          | ((conv => whnf) <;> (first
          | (with_reducible refine and_same ?_)
          | (with_reducible refine Br.yes (by omega) ?_)
          ))
          )
        all_goals (conv => whnf)
        all_goals (try dsimp only)
        exact ⟨(j + 1, _, x, L), rfl, rfl, ⟨by dsimp only; omega, hgo, hx.keepN (by (repeat (first
              | exact Gr.refl _ _
              | with_reducible refine Gr.trans ?_ (Gr.boxN _ _ _ _ _)
              | refine Gr.trans ?_ (by assumption)
              ))), b0⟩, by dsimp only; omega⟩
      · have hgo2 := hgo.free hfr
        have hll := frR_length L k
        rw [show frE L k = 0 from by simp [frE, hfr]]
        repeat' (first
          | ((with_reducible refine Side.intro ?_) <;> (first
          | exact Nat.le_of_ble_eq_true rfl
          ))
          | ((conv => whnf) <;> (first
          | (with_reducible refine and_same ?_)
          | (with_reducible refine and_side ?_ ?_)
          | (with_reducible refine Br.yes rfl ?_)
          | ((with_reducible apply blkAt_intro) ; (focus (first
          | ((repeat (first
          | assumption
          )); done)
          )) ; (focus (first | rfl | assumption | omega)) ; (try dsimp only))
          ))
          )
        all_goals (conv => whnf)
        all_goals (try dsimp only)
        refine Find_call (frR L k) i g (by omega) (Looks.ownss (hy.keepN (by (repeat (first
              | exact Gr.refl _ _
              ))))) fun H4 hg4 => ?_
        replace b0 := hg4.2 0 _ (by (first
              | ((repeat (first
              | assumption
              )); done)
              )) (by simp)
        rw [hgo2.find]
        skip
        all_goals (conv => whnf)
        all_goals (try dsimp only)
        refine Right_call (frR L k) (by omega) (Looks.ownss (hy.keepN (by (repeat (first
              | assumption
              ))))) fun H5 hg5 => ?_
        replace b0 := hg5.2 0 _ (by (first
              | ((repeat (first
              | assumption
              )); done)
              )) (by simp)
        rw [hgo2.ok]
        repeat' (first
          | ((conv => whnf) <;> (first
          | (with_reducible refine and_same ?_)
          | (with_reducible refine Br.yes (by omega) ?_)
          ))
          )
        all_goals (conv => whnf)
        all_goals (try dsimp only)
        exact ⟨(j + 1, _, y, (frR L k)), rfl, rfl, ⟨by dsimp only; omega, hgo2, hy.keepN (by (repeat (first
              | exact Gr.trans (by assumption) (by assumption)
              ))), b0⟩, by dsimp only; omega⟩
  · repeat' (first
      | ((with_reducible refine Side.intro ?_) <;> (first
      | (simp only [List.append_nil, List.nil_append, List.map_nil]; first | exact List.nodup_nil | exact nodup_bid1 _ | exact nodup_bid2 (by assumption))
      | ((first | refine fresh_tup ?_ | skip); (repeat (first |  exact FreshA.sl _ _ FreshA_bs | exact FreshA.sl _ _ FreshA_is | exact FreshA.nils | exact FreshA.nilp | exact FreshA.int _ _ | exact FreshA.bool _ | exact FreshA.str _ | exact fresh_nil | refine fresh_cons ?_ ?_ | with_reducible refine fresh_aggR ?_ | with_reducible refine fresh_agg ?_ | with_reducible exact fresh_nilA | with_reducible refine fresh_consA ?_ ?_)); done)
      ))
      | ((conv => whnf) <;> (first
      | (with_reducible refine and_same ?_)
      | (with_reducible refine and_side ?_ ?_)
      | (with_reducible refine Br.no (by omega) ?_)
      | (with_reducible refine Br.mk (fun _ => ?_) (fun _ => ?_))
      | (with_reducible refine NOut.lit ?_)
      | (with_reducible refine lenR_sl ?_)
      ))
      )
    all_goals (conv => whnf)
    all_goals (try dsimp only)
    all_goals exact ret_bool rfl
end Go.Proofs.Ytbmocdcfcdmmkaa
