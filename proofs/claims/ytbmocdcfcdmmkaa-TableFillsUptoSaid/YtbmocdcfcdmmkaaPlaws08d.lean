import Derived.Test.YtbmocdcfcdmmkaaPlaws08c
namespace Go.Proofs.Ytbmocdcfcdmmkaa
open Go Go.Proofs.Ytbmocdcfcdmmkaa.V
set_option maxRecDepth 20000
attribute [local irreducible] CallS AOK AOKn ALoop Side Ref.ok
def s41 : Sl := ⟨0, false, false, 4, 1⟩
def Vw (σ : AH) (x : AV) (l : List Sl) : Prop := x = .sl 5 (ss l) false ∨ Own σ 5 x (ss l)
theorem Vw.looks {σ : AH} {x : AV} {l : List Sl} (h : Vw σ x l) : Looks σ x (.sl 5 (ss l) false) := by
  rcases h with rfl | h
  · exact Looks.ss _ _ _
  · exact Looks.ownss h
theorem Vw.keepN {σ τ : AH} {x : AV} {l : List Sl} (k : Gr σ τ none) (h : Vw σ x l) : Vw τ x l := by
  rcases h with rfl | h
  · exact .inl rfl
  · exact .inr (h.keepN k)
theorem tk41 {L : List Sl} (ho : okL L = true) (hx : nxtOk L = true) : tkOk L s41 = true ∧ tkS L s41 = ⟨(gat L (nxtV L)).g, true, false, 4, 1⟩ := by
  obtain ⟨h1, h2⟩ := nxt_lt hx
  have h3 := okS_g (okS_gat ho h1)
  refine ⟨tkOk_iff.2 ⟨ho, hx, ?_⟩, rfl⟩
  show (decide (0 ≤ (gat L (nxtV L)).g ∧ (gat L (nxtV L)).g ≤ 65535) && (if true = true then decide ((0 : Int) ≤ 4 ∧ (4 : Int) ≤ 2048 ∧ (1 : Int) ≤ 1 ∧ (1 : Int) ≤ 2048) else decide (false = false ∧ (4 : Int) = 0 ∧ (1 : Int) = 0))) = true
  rw [decide_eq_true h3]; rfl
set_option maxHeartbeats 4000000 in
theorem TableFills_ok (l : List Sl) (hs : l.length ≤ 4611686018) : AOKn Try.prog F.joistlaw08_TableFills [.sl 5 (ss l) false] fun y => y = .bool true := by
  have hn := ss_length l
  refine AOKn.by_steps mixed fc_joistlaw08_TableFills_ok (by simp [fc_joistlaw08_TableFills]) ?_
  skip
  all_goals (conv => whnf)
  all_goals (try dsimp only)
  refine small_call fun H0 hg0 => ?_
  skip
  all_goals (conv => whnf)
  all_goals (try dsimp only)
  refine Right_call l (by omega) (Looks.ss _ _ _) fun H1 hg1 => ?_
  cases ho : okL l
  · repeat' (first
      | ((with_reducible refine Side.intro ?_) <;> (first
      | (simp only [List.append_nil, List.nil_append, List.map_nil]; first | exact List.nodup_nil | exact nodup_bid1 _ | exact nodup_bid2 (by assumption))
      | ((first | refine fresh_tup ?_ | skip); (repeat (first | exact fresh_ss _ |  exact FreshA.sl _ _ FreshA_bs | exact FreshA.sl _ _ FreshA_is | exact FreshA.nils | exact FreshA.nilp | exact FreshA.int _ _ | exact FreshA.bool _ | exact FreshA.str _ | exact fresh_nil | refine fresh_cons ?_ ?_ | with_reducible refine fresh_aggR ?_ | with_reducible refine fresh_agg ?_ | with_reducible exact fresh_nilA | with_reducible refine fresh_consA ?_ ?_)); done)
      ))
      | ((conv => whnf) <;> (first
      | (with_reducible refine and_side ?_ ?_)
      | (with_reducible refine NOut.lit ?_)
      ))
      )
    all_goals (conv => whnf)
    all_goals (try dsimp only)
    exact ret_bool rfl
  · have hL := (okL_iff.1 ho).2
    skip
    all_goals (conv => whnf)
    all_goals (try dsimp only)
    refine Chain_call l hs (Looks.ss _ _ _) fun H2 c hg2 hc hn2 => ?_
    skip
    all_goals (conv => whnf)
    all_goals (try dsimp only)
    have hcl := chI_length l l.length
    have hci : (chI l l.length).length = (chain l l.length).length := by simp [chI]
    have hcn := is_length (chI l l.length)
    refine loop_at (α := Nat × AH × AV × List Sl) (fun a => [(0, a.2.2.1), (5, .int .i64 a.1)]) (fun a => a.2.1) (fun a => a.1 ≤ (chI l l.length).length ∧ okL a.2.2.2 = true ∧ a.2.2.2.length = l.length ∧ chain a.2.2.2 a.2.2.2.length = (chain l l.length).drop a.1 ∧ Vw a.2.1 a.2.2.1 a.2.2.2 ∧ Own a.2.1 1 c (is (chI l l.length))) (fun a => (chI l l.length).length - a.1) (0, H2, .sl 5 (ss l) false, l) ⟨by omega, ho, rfl, rfl, .inl rfl, hc⟩ rfl rfl ?_
    rintro ⟨i, σ, x, L⟩ ⟨hi, hoL, hlen, hch, hv, hc'⟩
    dsimp only at hi hoL hlen hch hv hc' ⊢
    have hLn := ss_length L
    clear hc
    by_cases hlt : i < (chI l l.length).length
    · obtain ⟨k, t, hkt⟩ : ∃ k t, (chain l l.length).drop i = k :: t := by
        cases hd : (chain l l.length).drop i with
        | nil => have := List.drop_eq_nil_iff.1 hd; omega
        | cons k t => exact ⟨k, t, rfl⟩
      rw [hkt] at hch
      have hki : (chain l l.length)[i]? = some k := by
        have := List.getElem?_drop (xs := chain l l.length) (i := i) (j := 0)
        rw [hkt] at this; simpa using this.symm
      have hkc : (chI l l.length)[(i : Int).toNat]? = some (k : Int) := by
        rw [Int.toNat_natCast, chI, List.getElem?_map, hki]; rfl
      have hnx : nxtOk L = true ∧ nxtV L = k := by simp [nxtOk, nxtV, hch]
      obtain ⟨hx, hxk⟩ := hnx
      obtain ⟨hkl, hop⟩ := nxt_lt hx
      obtain ⟨htk, hts⟩ := tk41 hoL hx
      rw [hxk] at hkl hop hts
      have hgp := some_gat (l := L) (k := (k : Int).toNat) (by omega)
      have hgk : gat L (k : Int).toNat = gat L k := by rw [Int.toNat_natCast]
      rw [hgk] at hgp
      have hokS := (tkOk_iff.1 htk).2.2
      have e1 : tkR L s41 = L.set k (tkS L s41) := by simp [tkR, htk, hxk]
      have e2 : tkE L s41 = 0 := by simp [tkE, htk]
      have e3 : tkI L s41 = (k : Nat) := by simp [tkI, htk, hxk]
      have e4 : tkG L s41 = (gat L k).g := by simp [tkG, htk, hts]
      rw [hts] at e1 hokS
      generalize hgg : gat L k = s at *
      obtain ⟨g, lv, tw, a, n⟩ := s
      dsimp only at e1 e4 hokS
      have hsl : (ss (L.set k ⟨g, true, false, 4, 1⟩)).length = L.length := by rw [ss_length, List.length_set]
      have hsp : (L.set k ⟨g, true, false, 4, 1⟩)[0 + (k : Int).toNat]? = some ⟨g, true, false, 4, 1⟩ := by
        rw [Nat.zero_add, Int.toNat_natCast, List.getElem?_set_self hkl]
      have hsp2 := hsp
      rw [Nat.zero_add] at hsp2
      have hnew : chain (L.set k ⟨g, true, false, 4, 1⟩) (L.set k ⟨g, true, false, 4, 1⟩).length = t := by
        rw [List.length_set]; exact chain_set hch hkl rfl
      have hokN : okL (L.set k ⟨g, true, false, 4, 1⟩) = true := okL_set hoL hokS
      have hdr : (chain l l.length).drop (i + 1) = t := by
        rw [← List.drop_drop, hkt]; rfl
      repeat' (first
        | ((conv => whnf) <;> (first
        | (with_reducible refine and_same ?_)
        | (with_reducible refine Br.yes (by omega) ?_)
        | (with_reducible refine lenR_own (by assumption) ?_)
        ))
        )
      all_goals (conv => whnf)
      all_goals (try dsimp only)
      refine Next_call L (by omega) hv.looks fun H3 hg3 => ?_
      rw [hx, hxk]
      repeat' (first
        | ((with_reducible refine Side.intro ?_) <;> (first
        | exact Nat.le_of_ble_eq_true rfl
        | exact rfl
        ))
        | ((conv => whnf) <;> (first
        | (with_reducible refine and_side ?_ ?_)
        ))
        )
      all_goals (conv => whnf)
      all_goals (try dsimp only)
      refine Take_call L s41 (by omega) (hv.keepN (by (repeat (first
            | assumption
            )))).looks fun H4 m hg4 hm hn4 => ?_
      rw [e1] at hm
      rw [e2, e3, e4]
      unfold hav
      have hvv : Vw H4 x L := hv.keepN (by (repeat (first
            | exact Gr.trans (by assumption) (by assumption)
            )))
      have hcc : Own H4 1 c (is (chI l l.length)) := hc'.keepN (by (repeat (first
            | exact Gr.trans (by assumption) (by assumption)
            )))
      clear hc' hv
      rcases hvv with rfl | hv
      · repeat' (first
          | ((with_reducible refine Side.intro ?_) <;> (first
          | omega
          | exact Nat.le_of_ble_eq_true rfl
          | exact rfl
          ))
          | ((conv => whnf) <;> (first
          | (with_reducible refine and_same ?_)
          | (with_reducible refine and_side ?_ ?_)
          | (with_reducible refine Br.yes (by omega) ?_)
          | (with_reducible refine Br.no (by omega) ?_)
          | ((with_reducible apply blkAt_intro) ; (focus (first
          | ((repeat (first
          | assumption
          | exact get_new
          | exact get_set get_new
          )); done)
          )) ; (focus (first | rfl | assumption | omega)) ; (try dsimp only))
          | (with_reducible refine nthR_ss1 (by assumption) ?_)
          | (with_reducible refine nthR_is1 (by assumption) ?_)
          | (with_reducible refine lenR_own (Own.upTo (by assumption) (by ((repeat (first | exact Gr.refl _ _ | assumption | with_reducible refine Gr.trans ?_ (Gr.boxN _ _ _ _ _) | refine Gr.setNew ?_ (by first | exact Nat.le_refl _ | (simp only [newB_length, List.length_set, List.length_append, List.length_singleton]; omega) | omega) _ | refine Gr.addN ?_ _ | refine Gr.newN ?_ _ _ _ | exact Gr.trans (by assumption) (by assumption) | refine Gr.trans ?_ (by assumption) | refine Gr.trans (by assumption) ?_)); (first | done | fail)))) ?_)
          | (with_reducible refine ia_own (Own.upTo (by assumption) (by ((repeat (first | exact Gr.refl _ _ | assumption | with_reducible refine Gr.trans ?_ (Gr.boxN _ _ _ _ _) | refine Gr.setNew ?_ (by first | exact Nat.le_refl _ | (simp only [newB_length, List.length_set, List.length_append, List.length_singleton]; omega) | omega) _ | refine Gr.addN ?_ _ | refine Gr.newN ?_ _ _ _ | exact Gr.trans (by assumption) (by assumption) | refine Gr.trans ?_ (by assumption) | refine Gr.trans (by assumption) ?_)); (first | done | fail)))) ?_ ?_ (fun _ _ _ _ _ => ?_))
          | (with_reducible refine ia_sl ?_ ?_)
          | (with_reducible refine nthR_z ?_)
          | (with_reducible refine nthR_left (by first | omega | (simp only [List.length_append, List.length_cons, List.length_nil, List.length_take, List.length_drop, bs_length]; omega)) ?_)
          | (with_reducible refine lenR_sl ?_)
          ))
          )
        all_goals (conv => whnf)
        all_goals (try dsimp only)
        exact ⟨(i + 1, _, m, L.set k ⟨g, true, false, 4, 1⟩), rfl, rfl, ⟨by dsimp only; omega, hokN, by dsimp only; rw [List.length_set, hlen], by dsimp only; rw [hnew, hdr], .inr (hm.keepN (by (repeat (first
              | exact Gr.refl _ _
              | refine Gr.setNew ?_ (by first | exact Nat.le_refl _ | (simp only [newB_length, List.length_set, List.length_append, List.length_singleton]; omega) | omega) _
              | refine Gr.addN ?_ _
              )))), hcc.keepN (by (repeat (first
              | exact Gr.refl _ _
              | refine Gr.setNew ?_ (by first | exact Nat.le_refl _ | (simp only [newB_length, List.length_set, List.length_append, List.length_singleton]; omega) | omega) _
              | refine Gr.addN ?_ _
              )))⟩, by dsimp only; omega⟩
      · repeat' (first
          | ((with_reducible refine Side.intro ?_) <;> (first
          | omega
          | exact Nat.le_of_ble_eq_true rfl
          | exact rfl
          ))
          | ((conv => whnf) <;> (first
          | (with_reducible refine and_same ?_)
          | (with_reducible refine and_side ?_ ?_)
          | (with_reducible refine Br.yes (by omega) ?_)
          | (with_reducible refine Br.no (by omega) ?_)
          | ((with_reducible apply blkAt_intro) ; (focus (first
          | ((repeat (first
          | assumption
          | exact get_new
          | exact get_set get_new
          )); done)
          )) ; (focus (first | rfl | assumption | omega)) ; (try dsimp only))
          | (with_reducible refine nthR_ss1 (by assumption) ?_)
          | (with_reducible refine nthR_is1 (by assumption) ?_)
          | (with_reducible refine lenR_own (Own.upTo (by assumption) (by ((repeat (first | exact Gr.refl _ _ | assumption | with_reducible refine Gr.trans ?_ (Gr.boxN _ _ _ _ _) | refine Gr.setNew ?_ (by first | exact Nat.le_refl _ | (simp only [newB_length, List.length_set, List.length_append, List.length_singleton]; omega) | omega) _ | refine Gr.addN ?_ _ | refine Gr.newN ?_ _ _ _ | exact Gr.trans (by assumption) (by assumption) | refine Gr.trans ?_ (by assumption) | refine Gr.trans (by assumption) ?_)); (first | done | fail)))) ?_)
          | (with_reducible refine ia_own (Own.upTo (by assumption) (by ((repeat (first | exact Gr.refl _ _ | assumption | with_reducible refine Gr.trans ?_ (Gr.boxN _ _ _ _ _) | refine Gr.setNew ?_ (by first | exact Nat.le_refl _ | (simp only [newB_length, List.length_set, List.length_append, List.length_singleton]; omega) | omega) _ | refine Gr.addN ?_ _ | refine Gr.newN ?_ _ _ _ | exact Gr.trans (by assumption) (by assumption) | refine Gr.trans ?_ (by assumption) | refine Gr.trans (by assumption) ?_)); (first | done | fail)))) ?_ ?_ (fun _ _ _ _ _ => ?_))
          | (with_reducible refine nthR_z ?_)
          | (with_reducible refine nthR_left (by first | omega | (simp only [List.length_append, List.length_cons, List.length_nil, List.length_take, List.length_drop, bs_length]; omega)) ?_)
          ))
          )
        all_goals (conv => whnf)
        all_goals (try dsimp only)
        exact ⟨(i + 1, _, m, L.set k ⟨g, true, false, 4, 1⟩), rfl, rfl, ⟨by dsimp only; omega, hokN, by dsimp only; rw [List.length_set, hlen], by dsimp only; rw [hnew, hdr], .inr (hm.keepN (by (repeat (first
              | exact Gr.refl _ _
              | refine Gr.setNew ?_ (by first | exact Nat.le_refl _ | (simp only [newB_length, List.length_set, List.length_append, List.length_singleton]; omega) | omega) _
              | refine Gr.addN ?_ _
              )))), hcc.keepN (by (repeat (first
              | exact Gr.refl _ _
              | refine Gr.setNew ?_ (by first | exact Nat.le_refl _ | (simp only [newB_length, List.length_set, List.length_append, List.length_singleton]; omega) | omega) _
              | refine Gr.addN ?_ _
              )))⟩, by dsimp only; omega⟩
    · have hil : i = (chI l l.length).length := by omega
      have hch0 : chain L L.length = [] := by
        rw [hch, List.drop_eq_nil_iff]; omega
      obtain ⟨hx, hxk⟩ := nxt_none hch0
      have htk : tkOk L s41 = false := by simp [tkOk, hx]
      have e2 : tkE L s41 = 9 := by simp [tkE, htk, hoL, hx]
      have hz : (is (chI L L.length)).length = 0 := by simp [is, chI, hch0]
      repeat' (first
        | ((conv => whnf) <;> (first
        | (with_reducible refine and_same ?_)
        | (with_reducible refine Br.no (by omega) ?_)
        | (with_reducible refine lenR_own (by assumption) ?_)
        ))
        )
      all_goals (conv => whnf)
      all_goals (try dsimp only)
      refine Next_call L (by omega) hv.looks fun H3 hg3 => ?_
      rw [hx]
      repeat' (first
        | ((with_reducible refine Side.intro ?_) <;> (first
        | exact Nat.le_of_ble_eq_true rfl
        | exact rfl
        ))
        | ((conv => whnf) <;> (first
        | (with_reducible refine and_side ?_ ?_)
        ))
        )
      all_goals (conv => whnf)
      all_goals (try dsimp only)
      refine Take_call L s41 (by omega) (hv.keepN (by (repeat (first
            | assumption
            )))).looks fun H4 m hg4 hm hn4 => ?_
      rw [e2]
      unfold hav
      repeat' (first
        | ((with_reducible refine Side.intro ?_) <;> (first
        | exact Nat.le_of_ble_eq_true rfl
        | exact rfl
        ))
        | ((conv => whnf) <;> (first
        | (with_reducible refine and_same ?_)
        | (with_reducible refine and_side ?_ ?_)
        | (with_reducible refine Br.yes rfl ?_)
        | ((with_reducible apply blkAt_intro) ; (focus (first
        | ((repeat (first
        | exact get_new
        )); done)
        )) ; (focus (first | rfl | assumption | omega)) ; (try dsimp only))
        ))
        )
      all_goals (conv => whnf)
      all_goals (try dsimp only)
      refine Chain_call L (by omega) (hv.keepN (by (repeat (first
            | exact Gr.refl _ _
            | refine Gr.setNew ?_ (by first | exact Nat.le_refl _ | (simp only [newB_length, List.length_set, List.length_append, List.length_singleton]; omega) | omega) _
            | refine Gr.addN ?_ _
            | refine Gr.trans (by assumption) ?_
            )))).looks fun H5 d hg5 hd hn5 => ?_
      repeat' (first
        | ((with_reducible refine Side.intro ?_) <;> (first
        | (simp only [List.append_nil, List.nil_append, List.map_nil]; first | exact List.nodup_nil | exact nodup_bid1 _ | exact nodup_bid2 (by assumption))
        | ((first | refine fresh_tup ?_ | skip); (repeat (first | exact fresh_ss _ |  exact FreshA.sl _ _ FreshA_bs | exact FreshA.sl _ _ FreshA_is | exact FreshA.nils | exact FreshA.nilp | exact FreshA.int _ _ | exact FreshA.bool _ | exact FreshA.str _ | exact fresh_nil | refine fresh_cons ?_ ?_ | with_reducible refine fresh_aggR ?_ | with_reducible refine fresh_agg ?_ | with_reducible exact fresh_nilA | with_reducible refine fresh_consA ?_ ?_)); done)
        ))
        | ((conv => whnf) <;> (first
        | (with_reducible refine and_same ?_)
        | (with_reducible refine and_side ?_ ?_)
        | (with_reducible refine Br.yes (by omega) ?_)
        | (with_reducible refine lenR_own (by assumption) ?_)
        | (with_reducible refine NOut.lit ?_)
        ))
        )
      all_goals (conv => whnf)
      all_goals (try dsimp only)
      exact ret_bool rfl
end Go.Proofs.Ytbmocdcfcdmmkaa
