import Derived.Test.YtbmocdcfcdmmkaaPlaws08f
namespace Go.Proofs.Ytbmocdcfcdmmkaa
open Go Go.Proofs.Ytbmocdcfcdmmkaa.V
set_option maxRecDepth 20000
attribute [local irreducible] CallS AOK AOKn ALoop Side Ref.ok
def chs : List Sl → Nat → List Nat
  | [], _ => []
  | s :: r, i => if opn s then i :: chs r (i + 1) else chs r (i + 1)
theorem chs_cons (s : Sl) (r : List Sl) (i : Nat) : chs (s :: r) i = if opn s then i :: chs r (i + 1) else chs r (i + 1) := rfl
theorem chs_drop : ∀ (r : List Sl) (i k x : Nat), (chs r i)[k]? = some x → i ≤ x ∧ chs (r.drop (x + 1 - i)) (x + 1) = (chs r i).drop (k + 1)
  | [], i, k, x, h => by simp [chs] at h
  | s :: r, i, k, x, h => by
    rw [chs_cons] at h ⊢
    by_cases ho : opn s = true
    · rw [if_pos ho] at h ⊢
      cases k with
      | zero =>
        simp only [List.getElem?_cons_zero, Option.some.injEq] at h
        subst h
        refine ⟨Nat.le_refl _, ?_⟩
        rw [show i + 1 - i = 1 from by omega]
        rfl
      | succ k =>
        rw [List.getElem?_cons_succ] at h
        obtain ⟨h1, h2⟩ := chs_drop r (i + 1) k x h
        refine ⟨by omega, ?_⟩
        rw [show x + 1 - i = (x + 1 - (i + 1)) + 1 from by omega, List.drop_succ_cons, h2]
        rfl
    · rw [if_neg ho] at h ⊢
      obtain ⟨h1, h2⟩ := chs_drop r (i + 1) k x h
      refine ⟨by omega, ?_⟩
      rw [show x + 1 - i = (x + 1 - (i + 1)) + 1 from by omega, List.drop_succ_cons, h2]
theorem fo_chs : ∀ (r : List Sl) (i : Nat), fo r i = match chs r i with | [] => 0 | j :: _ => j + 1
  | [], i => rfl
  | s :: r, i => by
    unfold fo chs
    by_cases ho : opn s = true
    · rw [if_pos ho, if_pos ho]
    · rw [if_neg ho, if_neg ho]; exact fo_chs r (i + 1)
theorem chain_chs (l : List Sl) : ∀ (k i : Nat), k = l.length - i → i ≤ l.length → (List.range' i k).filter (fun j => opn (gat l j)) = chs (l.drop i) i
  | 0, i, h, hi => by
    rw [List.drop_of_length_le (by omega)]; rfl
  | k + 1, i, h, hi => by
    have e : l.drop i = gat l i :: l.drop (i + 1) := by
      rw [List.drop_eq_getElem_cons (by omega)]
      have := some_gat (l := l) (k := i) (by omega)
      rw [List.getElem?_eq_getElem (by omega)] at this
      rw [Option.some.inj this]
    rw [e, List.range'_succ, List.filter_cons]
    unfold chs
    rw [chain_chs l k (i + 1) (by omega) (by omega)]
theorem chain_eq (l : List Sl) : chain l l.length = chs l 0 := by
  have := chain_chs l l.length 0 (by omega) (by omega)
  rw [chain, List.range_eq_range', this]; rfl
def nw (l : List Sl) (i : Nat) : Nat := if opn (gat l i) then fo (l.drop (i + 1)) (i + 1) else 0
theorem nw_at {l : List Sl} {k i j : Nat} (h1 : (chain l l.length)[k]? = some i) (h2 : (chain l l.length)[k + 1]? = some j) : nw l i = j + 1 := by
  have ho := (mem_chain.1 (List.mem_of_getElem? h1)).2
  rw [chain_eq] at h1 h2
  obtain ⟨_, h3⟩ := chs_drop l 0 k i h1
  rw [Nat.sub_zero] at h3
  rw [nw, if_pos ho, fo_chs, h3]
  have h4 : (chs l 0).drop (k + 1) = j :: (chs l 0).drop (k + 2) := by
    obtain ⟨hlt, he⟩ := List.getElem?_eq_some_iff.1 h2
    rw [List.drop_eq_getElem_cons hlt, he]
  rw [h4]
theorem nw_last {l : List Sl} {k i : Nat} (h1 : (chain l l.length)[k]? = some i) (h2 : (chain l l.length).length ≤ k + 1) : nw l i = 0 := by
  have ho := (mem_chain.1 (List.mem_of_getElem? h1)).2
  rw [chain_eq] at h1 h2
  obtain ⟨_, h3⟩ := chs_drop l 0 k i h1
  rw [Nat.sub_zero] at h3
  rw [nw, if_pos ho, fo_chs, h3, List.drop_of_length_le h2]
theorem nw_no {l : List Sl} {i : Nat} (h : i ∉ chain l l.length) (hi : i < l.length) : nw l i = 0 := by
  have : opn (gat l i) = false := by
    cases hb : opn (gat l i)
    · rfl
    · exact absurd (mem_chain.2 ⟨hi, hb⟩) h
  rw [nw, this]; rfl
/-- What is told of the next open slot when k of the chain are looked at. -/
def nxk (l : List Sl) (i k : Nat) : Nat := if i ∈ (chain l l.length).take k then nw l i else 0
theorem nxk_yes {l : List Sl} {i k j : Nat} (h1 : (chain l l.length)[k]? = some i) (h2 : (chain l l.length)[k + 1]? = some j) : nxk l i (k + 1) = j + 1 := by
  have : i ∈ (chain l l.length).take (k + 1) := by rw [List.take_add_one, h1]; simp
  rw [nxk, if_pos this, nw_at h1 h2]
theorem nxk_no {l : List Sl} {i k x : Nat} (h1 : (chain l l.length)[k]? = some x) (h2 : x ≠ i) : nxk l i (k + 1) = nxk l i k := by
  have : i ∈ (chain l l.length).take (k + 1) ↔ i ∈ (chain l l.length).take k := by
    rw [List.take_add_one, h1]
    simp only [Option.toList_some, List.mem_append, List.mem_singleton]
    exact ⟨fun h => h.resolve_right (fun e => h2 e.symm), .inl⟩
  unfold nxk
  by_cases hm : i ∈ (chain l l.length).take k
  · rw [if_pos hm, if_pos (this.2 hm)]
  · rw [if_neg hm, if_neg (fun q => hm (this.1 q))]
theorem nxk_end {l : List Sl} {i k : Nat} (hi : i < l.length) (h : (chain l l.length).length ≤ k + 1) : nxk l i k = nw l i := by
  unfold nxk
  by_cases hm : i ∈ (chain l l.length).take k
  · rw [if_pos hm]
  · rw [if_neg hm]
    by_cases hc : i ∈ chain l l.length
    · obtain ⟨j, hj, he⟩ := List.mem_iff_getElem.1 hc
      have hjk : k ≤ j := by
        apply Decidable.byContradiction
        intro hlt
        apply hm
        rw [List.mem_iff_getElem]
        refine ⟨j, by rw [List.length_take]; omega, ?_⟩
        rw [List.getElem_take]; exact he
      exact (nw_last (k := j) (by rw [List.getElem?_eq_getElem hj, he]) (by omega)).symm
    · exact (nw_no hc hi).symm
def wf (l : List Sl) (i : Nat) : List Int := (List.range i).flatMap (qw l)
theorem wf_succ (l : List Sl) (i : Nat) : wf l (i + 1) = wf l i ++ qw l i := by simp [wf, List.range_succ]
theorem wf_all (l : List Sl) : wf l l.length = ww l 0 := by rw [wf, ww, List.range_eq_range']; rfl
theorem wf_length (l : List Sl) : ∀ i, (wf l i).length = 4 * i
  | 0 => rfl
  | i + 1 => by rw [wf_succ, List.length_append, wf_length l i]; simp [qw]; omega
set_option maxHeartbeats 4000000 in
theorem RBytes_ok8 (l : List Sl) (hs : l.length ≤ 4611686018) : AOKn Try.prog F.joistref08_Bytes [.sl 5 (ss l) false] fun y => y = .tup [.sl 1 (bs (btR l)) true, .int .i64 (btE l)] := by
  have hn := ss_length l
  refine AOKn.by_steps mixed fc_joistref08_Bytes_ok (by simp [fc_joistref08_Bytes]) ?_
  skip
  all_goals (conv => whnf)
  all_goals (try dsimp only)
  refine RRight_call l (by omega) (Looks.ss _ _ _) fun H1 hg1 => ?_
  cases ho : okL l
  · rw [show btR l = [] from by simp [btR, ho], show btE l = 1 from by simp [btE, ho]]
    repeat' (first
      | ((with_reducible refine Side.intro ?_) <;> (first
      | (simp only [List.append_nil, List.nil_append, List.map_nil]; first | exact List.nodup_nil | exact nodup_bid1 _ | exact nodup_bid2 (by assumption))
      | ((first | refine fresh_tup ?_ | skip); (repeat (first | exact fresh_ss _ |  exact FreshA.sl _ _ FreshA_bs | exact FreshA.sl _ _ FreshA_is | exact FreshA.nils | exact FreshA.nilp | exact FreshA.int _ _ | exact FreshA.bool _ | exact FreshA.str _ | exact fresh_nil | refine fresh_cons ?_ ?_ | with_reducible refine fresh_aggR ?_ | with_reducible refine fresh_agg ?_ | with_reducible exact fresh_nilA | with_reducible refine fresh_consA ?_ ?_)); done)
      ))
      | ((conv => whnf) <;> (first
      | (with_reducible refine and_side ?_ ?_)
      | (with_reducible refine NOut.lit ?_)
      ))
      )
    all_goals (conv => whnf)
    all_goals (try dsimp only)
    exact ret_nilt rfl
  · have hL := (okL_iff.1 ho).2
    skip
    all_goals (conv => whnf)
    all_goals (try dsimp only)
    refine RChain_call l hs (Looks.ss _ _ _) fun H2 c hg2 hc hn2 => ?_
    have hcl := chI_length l l.length
    have hci : (chI l l.length).length = (chain l l.length).length := by simp [chI]
    have hcn := is_length (chI l l.length)
    skip
    all_goals (conv => whnf)
    all_goals (try dsimp only)
    refine loop_at (α := Nat × AH × AV) (fun a => [(5, a.2.2), (7, .int .i64 a.1)]) (fun a => a.2.1) (fun a => a.1 ≤ l.length ∧ Own a.2.1 1 a.2.2 (is (wf l a.1)) ∧ Own a.2.1 1 c (is (chI l l.length)) ∧ (c.bid = none ∨ a.2.2.bid ≠ c.bid)) (fun a => l.length - a.1) (0, H2, .nils) ⟨by dsimp only; omega, Own.nil _ _, hc, ?_⟩ rfl rfl ?_
    · dsimp only
      cases hcb : c.bid with
      | none => exact .inl rfl
      | some x => exact .inr (by simp [AV.bid])
    clear hc hn2
    rintro ⟨i, σ, acc⟩ ⟨hi, hacc, hc, hd⟩
    dsimp only at hi hacc hc hd ⊢
    by_cases hlt : i < l.length
    · have hp := some_gat (l := l) (k := (i : Int).toNat) (by omega)
      have hg : gat l (i : Int).toNat = gat l i := by rw [Int.toNat_natCast]
      have hS := okS_gat ho hlt
      rw [hg] at hp
      have hfl := fl_bd hS
      have hSg := okS_g hS
      have hq : qw l i = [fl (gat l i), (gat l i).a, (gat l i).n, (nw l i : Nat)] := by
        rw [qw, nw]; split <;> simp_all
      generalize gat l i = s at *
      obtain ⟨g, lv, tw, a, n⟩ := s
      dsimp only at hq hSg
      have hfe : fl ⟨g, lv, tw, a, n⟩ = 4 * g + (if lv then 2 else 0) + (if tw then 1 else 0) := rfl
      have hwfl := wf_length l i
      have hwfn := is_length (wf l i)
      have hnxe := nxk_end (k := (chain l l.length).length) hlt (by omega)
      have hnw := fo_le (l.drop (i + 1)) (i + 1)
      cases lv <;> cases tw
      all_goals
        simp only [Bool.false_eq_true, if_false, if_true] at hfe
        repeat' (first
          | ((with_reducible refine Side.intro ?_) <;> (first
          | omega
          | exact Nat.le_of_ble_eq_true rfl
          | exact rfl
          ))
          | ((conv => whnf) <;> (first
          | (with_reducible refine and_same ?_)
          | (with_reducible refine and_side ?_ ?_)
          | ((with_reducible apply Br.yes) ; (focus omega))
          | ((with_reducible apply blkAt_intro) ; (focus (first
          | ((repeat (first
          | exact get_new
          | exact get_set get_new
          )); done)
          )) ; (focus (first | rfl | assumption | omega)) ; (try dsimp only))
          | ((with_reducible apply nthR_ss1) ; (focus assumption))
          | (with_reducible refine ia_sl ?_ ?_)
          | (with_reducible refine lenR_sl ?_)
          ))
          )
        all_goals (conv => whnf)
        all_goals (try dsimp only)
        refine loop_at (α := Nat) (fun k => [(10, .int .i64 (nxk l i k : Nat)), (11, .int .i64 k)]) (fun _ => _) (fun k => k ≤ (chain l l.length).length) (fun k => (chain l l.length).length - k) 0 (by omega) rfl rfl ?_
        intro k hk
        by_cases hkl : k + 1 < (chain l l.length).length
        · obtain ⟨x, hx, hx'⟩ := getN (l := chain l l.length) (k := k) (by omega)
          obtain ⟨y, hy, hy'⟩ := getN (l := chain l l.length) (k := k + 1) (by omega)
          have hxi : (chI l l.length)[(k : Int).toNat]? = some (x : Int) := by rw [chI, List.getElem?_map, hx]; rfl
          have hyi : (chI l l.length)[((k : Int) + 1).toNat]? = some (y : Int) := by
            rw [show ((k : Int) + 1).toNat = k + 1 from by omega, chI, List.getElem?_map, hy']; rfl
          have hyl := (mem_chain.1 (List.mem_of_getElem? hy')).1
          by_cases hxe : x = i
          · subst hxe
            have hyes := nxk_yes hx' hy'
            repeat' (first
              | ((with_reducible refine Side.intro ?_) <;> (first
              | omega
              ))
              | ((conv => whnf) <;> (first
              | (with_reducible refine and_same ?_)
              | (with_reducible refine Br.yes rfl ?_)
              | ((with_reducible apply Br.yes) ; (focus omega))
              | ((with_reducible apply blkAt_intro) ; (focus (first
              | ((repeat (first
              | assumption
              )); done)
              )) ; (focus (first | rfl | assumption | omega)) ; (try dsimp only))
              | ((with_reducible apply nthR_is1) ; (focus assumption))
              | ((with_reducible apply lenR_own) ; (focus (apply Own.upTo ; (focus assumption) ; (repeat (first | exact Gr.refl _ _ | assumption | with_reducible refine Gr.trans ?_ (Gr.boxN _ _ _ _ _) | refine Gr.setNew ?_ (by first | exact Nat.le_refl _ | (simp only [newB_length, List.length_set, List.length_append, List.length_singleton]; omega) | omega) _ | refine Gr.addN ?_ _ | refine Gr.newN ?_ _ _ _ | exact Gr.trans (by assumption) (by assumption) | refine Gr.trans ?_ (by assumption) | refine Gr.trans (by assumption) ?_)) ; (first | done | fail))))
              | ((with_reducible apply ia_own) ; (focus (apply Own.upTo ; (focus assumption) ; (repeat (first | exact Gr.refl _ _ | assumption | with_reducible refine Gr.trans ?_ (Gr.boxN _ _ _ _ _) | refine Gr.setNew ?_ (by first | exact Nat.le_refl _ | (simp only [newB_length, List.length_set, List.length_append, List.length_singleton]; omega) | omega) _ | refine Gr.addN ?_ _ | refine Gr.newN ?_ _ _ _ | exact Gr.trans (by assumption) (by assumption) | refine Gr.trans ?_ (by assumption) | refine Gr.trans (by assumption) ?_)) ; (first | done | fail))))
              | (with_reducible refine nthR_z ?_)
              | ((with_reducible apply nthR_left) ; (focus (first | omega | (simp only [List.length_append, List.length_cons, List.length_nil, List.length_take, List.length_drop, bs_length]; omega))))
              | (with_reducible intro _)
              ))
              )
            all_goals (conv => whnf)
            all_goals (try dsimp only)
            exact ⟨k + 1, by rw [hyes]; rfl, rfl, by omega, by omega⟩
          · have hno := nxk_no hx' hxe
            repeat' (first
              | ((with_reducible refine Side.intro ?_) <;> (first
              | omega
              ))
              | ((conv => whnf) <;> (first
              | (with_reducible refine and_same ?_)
              | ((with_reducible apply Br.yes) ; (focus omega))
              | ((with_reducible apply Br.no) ; (focus omega))
              | ((with_reducible apply blkAt_intro) ; (focus (first
              | ((repeat (first
              | assumption
              )); done)
              )) ; (focus (first | rfl | assumption | omega)) ; (try dsimp only))
              | ((with_reducible apply nthR_is1) ; (focus assumption))
              | ((with_reducible apply lenR_own) ; (focus (apply Own.upTo ; (focus assumption) ; (repeat (first | exact Gr.refl _ _ | assumption | with_reducible refine Gr.trans ?_ (Gr.boxN _ _ _ _ _) | refine Gr.setNew ?_ (by first | exact Nat.le_refl _ | (simp only [newB_length, List.length_set, List.length_append, List.length_singleton]; omega) | omega) _ | refine Gr.addN ?_ _ | refine Gr.newN ?_ _ _ _ | exact Gr.trans (by assumption) (by assumption) | refine Gr.trans ?_ (by assumption) | refine Gr.trans (by assumption) ?_)) ; (first | done | fail))))
              | ((with_reducible apply ia_own) ; (focus (apply Own.upTo ; (focus assumption) ; (repeat (first | exact Gr.refl _ _ | assumption | with_reducible refine Gr.trans ?_ (Gr.boxN _ _ _ _ _) | refine Gr.setNew ?_ (by first | exact Nat.le_refl _ | (simp only [newB_length, List.length_set, List.length_append, List.length_singleton]; omega) | omega) _ | refine Gr.addN ?_ _ | refine Gr.newN ?_ _ _ _ | exact Gr.trans (by assumption) (by assumption) | refine Gr.trans ?_ (by assumption) | refine Gr.trans (by assumption) ?_)) ; (first | done | fail))))
              | (with_reducible refine nthR_z ?_)
              | ((with_reducible apply nthR_left) ; (focus (first | omega | (simp only [List.length_append, List.length_cons, List.length_nil, List.length_take, List.length_drop, bs_length]; omega))))
              | (with_reducible intro _)
              ))
              )
            all_goals (conv => whnf)
            all_goals (try dsimp only)
            exact ⟨k + 1, by rw [hno]; rfl, rfl, by omega, by omega⟩
        · have hend := nxk_end (k := k) hlt (by omega)
          rw [hend]
          repeat' (first
            | ((with_reducible refine Side.intro ?_) <;> (first
            | omega
            | exact Nat.le_of_ble_eq_true rfl
            | exact rfl
            ))
            | ((conv => whnf) <;> (first
            | (with_reducible refine and_same ?_)
            | (with_reducible refine and_side ?_ ?_)
            | ((with_reducible apply Br.yes) ; (focus omega))
            | ((with_reducible apply Br.no) ; (focus omega))
            | ((with_reducible apply blkAt_intro) ; (focus (first
            | ((repeat (first
            | exact get_new
            | exact get_set get_new
            )); done)
            )) ; (focus (first | rfl | assumption | omega)) ; (try dsimp only))
            | ((with_reducible apply lenR_own) ; (focus (apply Own.upTo ; (focus assumption) ; (repeat (first | exact Gr.refl _ _ | assumption | with_reducible refine Gr.trans ?_ (Gr.boxN _ _ _ _ _) | refine Gr.setNew ?_ (by first | exact Nat.le_refl _ | (simp only [newB_length, List.length_set, List.length_append, List.length_singleton]; omega) | omega) _ | refine Gr.addN ?_ _ | refine Gr.newN ?_ _ _ _ | exact Gr.trans (by assumption) (by assumption) | refine Gr.trans ?_ (by assumption) | refine Gr.trans (by assumption) ?_)) ; (first | done | fail))))
            | (with_reducible refine rowsR_rsl ?_)
            ))
            )
          all_goals (conv => whnf)
          all_goals (try dsimp only)
          refine appendR_own (rows := is (wf l i)) (hacc.keepN (by (repeat (first
                | exact Gr.refl _ _
                | refine Gr.setNew ?_ (by first | exact Nat.le_refl _ | (simp only [newB_length, List.length_set, List.length_append, List.length_singleton]; omega) | omega) _
                | refine Gr.addN ?_ _
                )))) (by rw [hwfn, hwfl]; simp only [List.length_take, List.length_drop, List.length_set, List.length_replicate]; omega) ?_
          intro acc' σ' ho' hg' hb'
          have hc2 := (hc.keepN (by (repeat (first
                | exact Gr.refl _ _
                | refine Gr.setNew ?_ (by first | exact Nat.le_refl _ | (simp only [newB_length, List.length_set, List.length_append, List.length_singleton]; omega) | omega) _
                | refine Gr.addN ?_ _
                )))).keep hg' hd
          have hd2 : c.bid = none ∨ acc'.bid ≠ c.bid := by
            rcases hb' with q | q
            · rw [q]; exact hd
            · right; rw [q]; exact fun e => not_new (hc.keepN (by (repeat (first
                  | exact Gr.refl _ _
                  | refine Gr.setNew ?_ (by first | exact Nat.le_refl _ | (simp only [newB_length, List.length_set, List.length_append, List.length_singleton]; omega) | omega) _
                  | refine Gr.addN ?_ _
                  )))) e.symm
          repeat' (first
            | ((conv => whnf) <;> (first
            | (with_reducible refine and_same ?_)
            | ((with_reducible apply Br.yes) ; (focus omega))
            ))
            )
          all_goals (conv => whnf)
          all_goals (try dsimp only)
          refine ⟨(i + 1, σ', acc'), rfl, rfl, ⟨by dsimp only; omega, ?_, hc2, hd2⟩, by dsimp only; omega⟩
          dsimp only
          rw [wf_succ, hq, hfe, ← is_append]
          refine (cast (congrArg (fun r => Own σ' 1 acc' (_ ++ r)) ?_) ho')
          simp [is, AV.cells]
    · have hil : i = l.length := by omega
      subst hil
      rw [wf_all] at hacc
      have hwl := ww_length l l.length 0 rfl
      have hR : ofR (ww l 0) = btR l := by rw [ofR, ww_may ho, if_pos rfl, btR, ho, if_pos rfl]
      have hE : btE l = 0 := by rw [btE, ho, if_pos rfl]
      repeat' (first
        | ((conv => whnf) <;> (first
        | (with_reducible refine and_same ?_)
        | ((with_reducible apply Br.no) ; (focus omega))
        | (with_reducible refine lenR_sl ?_)
        ))
        )
      all_goals (conv => whnf)
      all_goals (try dsimp only)
      refine ROf_call (ww l 0) (by omega) (Looks.ownis hacc) fun H3 y hg3 hy hn3 => ?_
      rw [hR] at hy
      rw [hE]
      repeat' (first
        | ((with_reducible refine Side.intro ?_) <;> (first
        | (simp only [List.append_nil, List.nil_append, List.map_nil]; first | exact List.nodup_nil | exact nodup_bid1 _ | exact nodup_bid2 (by assumption))
        | ((first | refine fresh_tup ?_ | skip); (repeat (first | exact fresh_ss _ |  exact FreshA.sl _ _ FreshA_bs | exact FreshA.sl _ _ FreshA_is | exact FreshA.nils | exact FreshA.nilp | exact FreshA.int _ _ | exact FreshA.bool _ | exact FreshA.str _ | exact fresh_nil | refine fresh_cons ?_ ?_ | with_reducible refine fresh_aggR ?_ | with_reducible refine fresh_agg ?_ | with_reducible exact fresh_nilA | with_reducible refine fresh_consA ?_ ?_)); done)
        ))
        | ((conv => whnf) <;> (first
        | (with_reducible refine and_side ?_ ?_)
        | ((with_reducible apply NOut.own) ; (focus assumption))
        | (with_reducible refine NOut.lit ?_)
        ))
        )
      all_goals (conv => whnf)
      all_goals (try dsimp only)
      exact ret_same rfl
end Go.Proofs.Ytbmocdcfcdmmkaa
