import Derived.Test.YtbmocdcfcdmmkaaPtable3
namespace Go.Proofs.Ytbmocdcfcdmmkaa
open Go Go.Proofs.Ytbmocdcfcdmmkaa.V
set_option maxRecDepth 20000
attribute [local irreducible] CallS AOK AOKn ALoop Side Ref.ok
theorem Take_ok (l : List Sl) (s : Sl) (hs : l.length ≤ 4611686018) : AOKn Try.prog F.table_Take [.sl 5 (ss l) false, s.av] fun y => y = .tup [.sl 5 (ss (tkR l s)) true, hav (tkI l s) (tkG l s), .int .i64 (tkE l s)] := by
  have hn := ss_length l
  obtain ⟨g, lv, tw, a, n⟩ := s
  show AOKn _ _ [.sl 5 (ss l) false, .agg [.int .i64 g, .bool lv, .bool tw, .int .i64 a, .int .i64 n]] _
  refine AOKn.by_steps mixed fc_table_Take_ok (by simp [fc_table_Take]) ?_
  repeat' (first
    | ((with_reducible refine Side.intro ?_) <;> (first
    | exact rfl
    ))
    | ((conv => whnf) <;> (first
    | (with_reducible refine and_side ?_ ?_)
    ))
    )
  all_goals (conv => whnf)
  all_goals (try dsimp only)
  refine Right_call l (by omega) (Looks.ss _ _ _) fun H1 hg1 => ?_
  have b0 := hg1.2 0 _ rfl (by simp)
  have b1 := hg1.2 1 _ rfl (by simp)
  cases ho : okL l
  · have et : tkOk l ⟨g, lv, tw, a, n⟩ = false := by simp [tkOk, ho]
    have e1 : tkR l ⟨g, lv, tw, a, n⟩ = [] := by simp [tkR, et]
    have e2 : tkE l ⟨g, lv, tw, a, n⟩ = 1 := by simp [tkE, et, ho]
    have e3 : tkI l ⟨g, lv, tw, a, n⟩ = 0 := by simp [tkI, et]
    have e4 : tkG l ⟨g, lv, tw, a, n⟩ = 0 := by simp [tkG, et]
    rw [e1, e2, e3, e4]
    repeat' (first
      | ((with_reducible refine Side.intro ?_) <;> (first
      | exact Nat.le_of_ble_eq_true rfl
      | (simp only [List.append_nil, List.nil_append, List.map_nil]; first | exact List.nodup_nil | exact nodup_bid1 _ | exact nodup_bid2 (by assumption))
      | ((first | refine fresh_tup ?_ | skip); (repeat (first | exact fresh_ss _ |  exact FreshA.sl _ _ FreshA_bs | exact FreshA.sl _ _ FreshA_is | exact FreshA.nils | exact FreshA.nilp | exact FreshA.int _ _ | exact FreshA.bool _ | exact FreshA.str _ | exact fresh_nil | refine fresh_cons ?_ ?_ | with_reducible refine fresh_aggR ?_ | with_reducible refine fresh_agg ?_ | with_reducible exact fresh_nilA | with_reducible refine fresh_consA ?_ ?_)); done)
      | exact rfl
      ))
      | ((conv => whnf) <;> (first
      | (with_reducible refine and_same ?_)
      | (with_reducible refine and_side ?_ ?_)
      | ((with_reducible apply blkAt_intro) ; (focus (first
      | ((repeat (first
      | assumption
      | exact get_set (by assumption)
      )); done)
      )) ; (focus (first | rfl | assumption | omega)) ; (try dsimp only))
      | (with_reducible refine NOut.lit ?_)
      ))
      )
    all_goals (conv => whnf)
    all_goals (try dsimp only)
    exact ret_nilt rfl
  · have hL := (okL_iff.1 ho).2
    skip
    all_goals (conv => whnf)
    all_goals (try dsimp only)
    refine Next_call l (by omega) (Looks.ss _ _ _) fun H2 hg2 => ?_
    replace b0 := hg2.2 0 _ (by (first
          | ((repeat (first
          | assumption
          )); done)
          )) (by simp)
    replace b1 := hg2.2 1 _ (by (first
          | ((repeat (first
          | assumption
          )); done)
          )) (by simp)
    cases hx : nxtOk l
    · have et : tkOk l ⟨g, lv, tw, a, n⟩ = false := by simp [tkOk, hx]
      have e1 : tkR l ⟨g, lv, tw, a, n⟩ = [] := by simp [tkR, et]
      have e2 : tkE l ⟨g, lv, tw, a, n⟩ = 9 := by simp [tkE, et, ho, hx]
      have e3 : tkI l ⟨g, lv, tw, a, n⟩ = 0 := by simp [tkI, et]
      have e4 : tkG l ⟨g, lv, tw, a, n⟩ = 0 := by simp [tkG, et]
      rw [e1, e2, e3, e4]
      repeat' (first
        | ((with_reducible refine Side.intro ?_) <;> (first
        | exact Nat.le_of_ble_eq_true rfl
        | (simp only [List.append_nil, List.nil_append, List.map_nil]; first | exact List.nodup_nil | exact nodup_bid1 _ | exact nodup_bid2 (by assumption))
        | ((first | refine fresh_tup ?_ | skip); (repeat (first | exact fresh_ss _ |  exact FreshA.sl _ _ FreshA_bs | exact FreshA.sl _ _ FreshA_is | exact FreshA.nils | exact FreshA.nilp | exact FreshA.int _ _ | exact FreshA.bool _ | exact FreshA.str _ | exact fresh_nil | refine fresh_cons ?_ ?_ | with_reducible refine fresh_aggR ?_ | with_reducible refine fresh_agg ?_ | with_reducible exact fresh_nilA | with_reducible refine fresh_consA ?_ ?_)); done)
        | exact rfl
        ))
        | ((conv => whnf) <;> (first
        | (with_reducible refine and_same ?_)
        | (with_reducible refine and_side ?_ ?_)
        | ((with_reducible apply blkAt_intro) ; (focus (first
        | ((repeat (first
        | assumption
        | exact get_set (by assumption)
        )); done)
        )) ; (focus (first | rfl | assumption | omega)) ; (try dsimp only))
        | (with_reducible refine NOut.lit ?_)
        ))
        )
      all_goals (conv => whnf)
      all_goals (try dsimp only)
      exact ret_nilt rfl
    · obtain ⟨hlt, hop⟩ := nxt_lt hx
      have hp := some_gat (l := l) (k := ((nxtV l : Nat) : Int).toNat) (by omega)
      have hgg : gat l ((nxtV l : Nat) : Int).toNat = gat l (nxtV l) := by rw [Int.toNat_natCast]
      have eS : tkS l ⟨g, lv, tw, a, n⟩ = ⟨(gat l (nxtV l)).g, true, tw, a, n⟩ := rfl
      rw [hgg] at hp
      generalize hk : nxtV l = k at *
      generalize gat l k = s at *
      obtain ⟨g', lv', tw', a', n'⟩ := s
      repeat' (first
        | ((with_reducible refine Side.intro ?_) <;> (first
        | omega
        | exact Nat.le_of_ble_eq_true rfl
        | exact rfl
        ))
        | ((conv => whnf) <;> (first
        | (with_reducible refine and_same ?_)
        | (with_reducible refine and_side ?_ ?_)
        | ((with_reducible apply blkAt_intro) ; (focus (first
        | ((repeat (first
        | assumption
        | exact get_set (by assumption)
        | with_reducible apply get_set
        )); done)
        )) ; (focus (first | rfl | assumption | omega)) ; (try dsimp only))
        | (with_reducible refine nthR_ss1 (by assumption) ?_)
        | (with_reducible refine ia_sl ?_ ?_)
        ))
        )
      all_goals (conv => whnf)
      all_goals (try dsimp only)
      refine right_call ⟨g', true, tw, a, n⟩ fun H3 hg3 => ?_
      replace b0 := hg3.2 0 _ (by (first
            | ((repeat (first
            | exact get_set (by assumption)
            | apply get_set
            )); done)
            )) (by simp)
      replace b1 := hg3.2 1 _ (by (first
            | ((repeat (first
            | assumption
            | (apply get_set_ne; (focus (first | omega | (simp only [newB_length, List.length_set, List.length_append, List.length_singleton, List.length_nil]; omega))))
            )); done)
            )) (by simp)
      have l3 := (List.getElem?_eq_some_iff.1 b1).1
      cases hr : okS ⟨g', true, tw, a, n⟩
      · have et : tkOk l ⟨g, lv, tw, a, n⟩ = false := by simp [tkOk, eS, hr]
        have e1 : tkR l ⟨g, lv, tw, a, n⟩ = [] := by simp [tkR, et]
        have e2 : tkE l ⟨g, lv, tw, a, n⟩ = 1 := by simp [tkE, et, ho, hx]
        have e3 : tkI l ⟨g, lv, tw, a, n⟩ = 0 := by simp [tkI, et]
        have e4 : tkG l ⟨g, lv, tw, a, n⟩ = 0 := by simp [tkG, et]
        rw [e1, e2, e3, e4]
        repeat' (first
          | ((with_reducible refine Side.intro ?_) <;> (first
          | exact Nat.le_of_ble_eq_true rfl
          | (simp only [List.append_nil, List.nil_append, List.map_nil]; first | exact List.nodup_nil | exact nodup_bid1 _ | exact nodup_bid2 (by assumption))
          | ((first | refine fresh_tup ?_ | skip); (repeat (first | exact fresh_ss _ |  exact FreshA.sl _ _ FreshA_bs | exact FreshA.sl _ _ FreshA_is | exact FreshA.nils | exact FreshA.nilp | exact FreshA.int _ _ | exact FreshA.bool _ | exact FreshA.str _ | exact fresh_nil | refine fresh_cons ?_ ?_ | with_reducible refine fresh_aggR ?_ | with_reducible refine fresh_agg ?_ | with_reducible exact fresh_nilA | with_reducible refine fresh_consA ?_ ?_)); done)
          | exact rfl
          ))
          | ((conv => whnf) <;> (first
          | (with_reducible refine and_same ?_)
          | (with_reducible refine and_side ?_ ?_)
          | ((with_reducible apply blkAt_intro) ; (focus (first
          | ((repeat (first
          | assumption
          | exact get_set (by assumption)
          )); done)
          )) ; (focus (first | rfl | assumption | omega)) ; (try dsimp only))
          | (with_reducible refine NOut.lit ?_)
          ))
          )
        all_goals (conv => whnf)
        all_goals (try dsimp only)
        exact ret_nilt rfl
      · have et : tkOk l ⟨g, lv, tw, a, n⟩ = true := by simp [tkOk, eS, hr, ho, hx]
        have e1 : tkR l ⟨g, lv, tw, a, n⟩ = l.set k ⟨g', true, tw, a, n⟩ := by simp [tkR, et, eS, hk]
        have e2 : tkE l ⟨g, lv, tw, a, n⟩ = 0 := by simp [tkE, et]
        have e3 : tkI l ⟨g, lv, tw, a, n⟩ = (k : Nat) := by simp [tkI, et, hk]
        have e4 : tkG l ⟨g, lv, tw, a, n⟩ = g' := by simp [tkG, et, eS]
        rw [e1, e2, e3, e4]
        repeat' (first
          | ((with_reducible refine Side.intro ?_) <;> (first
          | exact Nat.le_of_ble_eq_true rfl
          | exact rfl
          ))
          | ((conv => whnf) <;> (first
          | (with_reducible refine and_side ?_ ?_)
          | ((with_reducible apply blkAt_intro) ; (focus (first
          | ((repeat (first
          | assumption
          )); done)
          )) ; (focus (first | rfl | assumption | omega)) ; (try dsimp only))
          ))
          )
        all_goals (conv => whnf)
        all_goals (try dsimp only)
        refine with_call l k ⟨g', true, tw, a, n⟩ hlt (by omega) (Looks.ss _ _ _) fun H4 y hg4 hy hyn => ?_
        have hne : ss (l.set k ⟨g', true, tw, a, n⟩) ≠ [] := fun e => by
          have := congrArg List.length e
          rw [ss_length, List.length_set, List.length_nil] at this
          omega
        obtain ⟨id, gen, sp, rfl, hyb⟩ := hy.ne hne
        clear hy
        replace b1 := hg4.2 1 _ (by (first
              | ((repeat (first
              | assumption
              )); done)
              )) (by simp)
        have hid := hyn id rfl
        repeat' (first
          | (with_reducible exact Gr.side (by with_reducible assumption) _)
          | ((with_reducible refine Side.intro ?_) <;> (first
          | exact Nat.le_of_ble_eq_true rfl
          | (simp only [bs_length, List.length_append, List.length_cons, List.length_nil, List.length_take, List.length_drop, List.length_set, List.length_replicate]; omega)
          | exact rfl
          | (simp; done)
          ))
          | ((conv => whnf) <;> (first
          | (with_reducible refine and_same ?_)
          | (with_reducible refine and_side ?_ ?_)
          | ((with_reducible apply blkAt_intro) ; (focus (first
          | ((repeat (first
          | assumption
          | exact get_set (by assumption)
          | (apply get_set_ne; (focus (first | omega | (simp only [newB_length, List.length_set, List.length_append, List.length_singleton, List.length_nil]; omega))))
          )); done)
          )) ; (focus (first | rfl | assumption | omega)) ; (try dsimp only))
          | (with_reducible refine NOut.lit ?_)
          ))
          )
        all_goals (conv => whnf)
        all_goals (try dsimp only)
        all_goals first
          | (rw [List.take_left] ; exact ret_same rfl)
          | (rw [List.take_left] ; exact Side.intro (fresh_tup (fresh_cons (fresh_ss _) (fresh_cons (fresh_agg (fresh_consA (FreshA.int _ _) (fresh_consA (FreshA.int _ _) fresh_nilA))) (fresh_cons (FreshA.int _ _) fresh_nil)))))
          | trace_state
theorem call_tk {f : Nat} {xs vs : List AV} {σ : AH} {Q : AV → AH → Prop} {sz : Nat} {rows : List (List AV)} {y2 y3 : AV} (h : AOKn Try.prog f vs fun y => y = .tup [.sl sz rows true, y2, y3]) (hs : LooksL σ xs vs) (h2 : y2.plain = true) (h3 : y3.plain = true) (hQ : ∀ σ' y, Gr σ σ' none → Own σ' sz y rows → New σ y → Q (.tup [y, y2, y3]) σ') : CallS Try.prog f xs σ Q :=
  call_sl2 h hs h2 h3 hQ
theorem Take_call (l : List Sl) (s : Sl) (hs : l.length ≤ 4611686018) {σ : AH} {x : AV} (hx : Looks σ x (.sl 5 (ss l) false)) {Q : AV → AH → Prop} (h : ∀ σ' y, Gr σ σ' none → Own σ' 5 y (ss (tkR l s)) → New σ y → Q (.tup [y, hav (tkI l s) (tkG l s), .int .i64 (tkE l s)]) σ') : CallS Try.prog F.table_Take [x, s.av] σ Q :=
  call_sl2 (Take_ok l s hs) (.cons hx (.cons (.same rfl) .nil)) rfl rfl h
theorem Free_ok (l : List Sl) (k : Int) (hs : l.length ≤ 4611686018) : AOKn Try.prog F.table_Free [.sl 5 (ss l) false, .int .i64 k] fun y => y = .tup [.sl 5 (ss (frR l k)) true, .int .i64 (frE l k)] := by
  have hn := ss_length l
  refine AOKn.by_steps mixed fc_table_Free_ok (by simp [fc_table_Free]) ?_
  skip
  all_goals (conv => whnf)
  all_goals (try dsimp only)
  refine Right_call l (by omega) (Looks.ss _ _ _) fun H1 hg1 => ?_
  cases ho : okL l
  · have et : frOk l k = false := by simp [frOk, ho]
    have e1 : frR l k = [] := by simp [frR, et]
    have e2 : frE l k = 1 := by simp [frE, et]
    rw [e1, e2]
    repeat' (first
      | ((with_reducible refine Side.intro ?_) <;> (first
      | (simp only [List.append_nil, List.nil_append, List.map_nil]; first | exact List.nodup_nil | exact nodup_bid1 _ | exact nodup_bid2 (by assumption))
      | ((first | refine fresh_tup ?_ | skip); (repeat (first | exact fresh_ss _ |  exact FreshA.sl _ _ FreshA_bs | exact FreshA.sl _ _ FreshA_is | exact FreshA.nils | exact FreshA.nilp | exact FreshA.int _ _ | exact FreshA.bool _ | exact FreshA.str _ | exact fresh_nil | refine fresh_cons ?_ ?_ | with_reducible refine fresh_aggR ?_ | with_reducible refine fresh_agg ?_ | with_reducible exact fresh_nilA | with_reducible refine fresh_consA ?_ ?_)); done)
      ))
      | ((conv => whnf) <;> (first
      | (with_reducible refine and_side ?_ ?_)
      | (with_reducible refine NOut.lit ?_)
      ))
      )
    all_goals (conv => whnf)
    all_goals (try dsimp only)
    exact ret_nilt rfl
  · have hL := (okL_iff.1 ho).2
    by_cases hk : 0 ≤ k ∧ k < l.length
    · obtain ⟨j, rfl⟩ : ∃ j : Nat, k = j := ⟨k.toNat, by omega⟩
      have hj : ((j : Nat) : Int).toNat = j := Int.toNat_natCast j
      have hp := some_gat (l := l) (k := (j : Int).toNat) (by omega)
      have hS := okS_g (okS_gat ho (k := (j : Int).toNat) (by omega))
      generalize hkk : (j : Int) = k at *
      have ef : frS l k = ⟨min ((gat l k.toNat).g + 1) 65535, false, false, 0, 0⟩ := rfl
      have et : frOk l k = (gat l k.toNat).lv := by simp [frOk, ho, hk]
      generalize gat l k.toNat = s at *
      obtain ⟨g, lv, tw, a, n⟩ := s
      cases lv
      · have e1 : frR l k = [] := by simp [frR, et]
        have e2 : frE l k = 1 := by simp [frE, et]
        rw [e1, e2]
        repeat' (first
          | ((with_reducible refine Side.intro ?_) <;> (first
          | omega
          | (simp only [List.append_nil, List.nil_append, List.map_nil]; first | exact List.nodup_nil | exact nodup_bid1 _ | exact nodup_bid2 (by assumption))
          | ((first | refine fresh_tup ?_ | skip); (repeat (first | exact fresh_ss _ |  exact FreshA.sl _ _ FreshA_bs | exact FreshA.sl _ _ FreshA_is | exact FreshA.nils | exact FreshA.nilp | exact FreshA.int _ _ | exact FreshA.bool _ | exact FreshA.str _ | exact fresh_nil | refine fresh_cons ?_ ?_ | with_reducible refine fresh_aggR ?_ | with_reducible refine fresh_agg ?_ | with_reducible exact fresh_nilA | with_reducible refine fresh_consA ?_ ?_)); done)
          ))
          | ((conv => whnf) <;> (first
          | (with_reducible refine and_same ?_)
          | (with_reducible refine and_side ?_ ?_)
          | (with_reducible refine Br.no (by omega) ?_)
          | (with_reducible refine nthR_ss1 (by assumption) ?_)
          | (with_reducible refine ia_sl ?_ ?_)
          | (with_reducible refine NOut.lit ?_)
          | (with_reducible refine lenR_sl ?_)
          ))
          )
        all_goals (conv => whnf)
        all_goals (try dsimp only)
        exact ret_nilt rfl
      · have e1 : frR l k = l.set k.toNat (frS l k) := by simp [frR, et]
        have e2 : frE l k = 0 := by simp [frE, et]
        rw [e1, e2, ef]
        dsimp only at hS ⊢
        rw [hj]
        repeat' (first
          | ((with_reducible refine Side.intro ?_) <;> (first
          | omega
          | exact Nat.le_of_ble_eq_true rfl
          | exact rfl
          ))
          | ((conv => whnf) <;> (first
          | (with_reducible refine and_same ?_)
          | (with_reducible refine and_side ?_ ?_)
          | (with_reducible refine Br.yes (by omega) ?_)
          | (with_reducible refine Br.no (by omega) ?_)
          | (with_reducible refine Br.mk (fun _ => ?_) (fun _ => ?_))
          | (with_reducible refine nthR_ss1 (by assumption) ?_)
          | (with_reducible refine ia_sl ?_ ?_)
          | (with_reducible refine lenR_sl ?_)
          ))
          )
        all_goals (conv => whnf)
        all_goals (try dsimp only)
        · have em : min (g + 1) 65535 = 65535 := by omega
          rw [em, ← hkk]
          refine with_call l j ⟨65535, false, false, 0, 0⟩ (by omega) (by omega) (Looks.ss _ _ _) fun H2 y hg2 hy hyn => ?_
          repeat' (first
            | ((with_reducible refine Side.intro ?_) <;> (first
            | (simp only [List.append_nil, List.nil_append, List.map_nil]; first | exact List.nodup_nil | exact nodup_bid1 _ | exact nodup_bid2 (by assumption))
            | ((first | refine fresh_tup ?_ | skip); (repeat (first | exact fresh_ss _ |  exact FreshA.sl _ _ FreshA_bs | exact FreshA.sl _ _ FreshA_is | exact FreshA.nils | exact FreshA.nilp | exact FreshA.int _ _ | exact FreshA.bool _ | exact FreshA.str _ | exact fresh_nil | refine fresh_cons ?_ ?_ | with_reducible refine fresh_aggR ?_ | with_reducible refine fresh_agg ?_ | with_reducible exact fresh_nilA | with_reducible refine fresh_consA ?_ ?_)); done)
            ))
            | ((conv => whnf) <;> (first
            | (with_reducible refine and_side ?_ ?_)
            | (with_reducible refine NOut.own (by assumption) ?_)
            | (with_reducible refine NOut.lit ?_)
            ))
            )
          all_goals (conv => whnf)
          all_goals (try dsimp only)
          exact ret_same rfl
        · have em : min (g + 1) 65535 = g + 1 := by omega
          rw [em, ← hkk]
          refine with_call l j ⟨g + 1, false, false, 0, 0⟩ (by omega) (by omega) (Looks.ss _ _ _) fun H2 y hg2 hy hyn => ?_
          repeat' (first
            | ((with_reducible refine Side.intro ?_) <;> (first
            | (simp only [List.append_nil, List.nil_append, List.map_nil]; first | exact List.nodup_nil | exact nodup_bid1 _ | exact nodup_bid2 (by assumption))
            | ((first | refine fresh_tup ?_ | skip); (repeat (first | exact fresh_ss _ |  exact FreshA.sl _ _ FreshA_bs | exact FreshA.sl _ _ FreshA_is | exact FreshA.nils | exact FreshA.nilp | exact FreshA.int _ _ | exact FreshA.bool _ | exact FreshA.str _ | exact fresh_nil | refine fresh_cons ?_ ?_ | with_reducible refine fresh_aggR ?_ | with_reducible refine fresh_agg ?_ | with_reducible exact fresh_nilA | with_reducible refine fresh_consA ?_ ?_)); done)
            ))
            | ((conv => whnf) <;> (first
            | (with_reducible refine and_side ?_ ?_)
            | (with_reducible refine NOut.own (by assumption) ?_)
            | (with_reducible refine NOut.lit ?_)
            ))
            )
          all_goals (conv => whnf)
          all_goals (try dsimp only)
          exact ret_same rfl
    · have et : frOk l k = false := by simp [frOk, hk]
      have e1 : frR l k = [] := by simp [frR, et]
      have e2 : frE l k = 1 := by simp [frE, et]
      rw [e1, e2]
      repeat' (first
        | ((with_reducible refine Side.intro ?_) <;> (first
        | (simp only [List.append_nil, List.nil_append, List.map_nil]; first | exact List.nodup_nil | exact nodup_bid1 _ | exact nodup_bid2 (by assumption))
        | ((first | refine fresh_tup ?_ | skip); (repeat (first | exact fresh_ss _ |  exact FreshA.sl _ _ FreshA_bs | exact FreshA.sl _ _ FreshA_is | exact FreshA.nils | exact FreshA.nilp | exact FreshA.int _ _ | exact FreshA.bool _ | exact FreshA.str _ | exact fresh_nil | refine fresh_cons ?_ ?_ | with_reducible refine fresh_aggR ?_ | with_reducible refine fresh_agg ?_ | with_reducible exact fresh_nilA | with_reducible refine fresh_consA ?_ ?_)); done)
        ))
        | ((conv => whnf) <;> (first
        | (with_reducible refine and_same ?_)
        | (with_reducible refine and_side ?_ ?_)
        | (with_reducible refine Br.yes (by omega) ?_)
        | (with_reducible refine Br.mk (fun _ => ?_) (fun _ => ?_))
        | (with_reducible refine NOut.lit ?_)
        | (with_reducible refine lenR_sl ?_)
        ))
        )
      all_goals (conv => whnf)
      all_goals (try dsimp only)
      all_goals exact ret_nilt rfl
theorem RTake_ok (l : List Sl) (s : Sl) (hs : l.length ≤ 4611686018) : AOKn Try.prog F.joistref08_Take [.sl 5 (ss l) false, s.av] fun y => y = .tup [.sl 5 (ss (tkR l s)) true, hav (tkI l s) (tkG l s), .int .i64 (tkE l s)] := by
  have hn := ss_length l
  obtain ⟨g, lv, tw, a, n⟩ := s
  show AOKn _ _ [.sl 5 (ss l) false, .agg [.int .i64 g, .bool lv, .bool tw, .int .i64 a, .int .i64 n]] _
  refine AOKn.by_steps mixed fc_joistref08_Take_ok (by simp [fc_joistref08_Take]) ?_
  repeat' (first
    | ((with_reducible refine Side.intro ?_) <;> (first
    | exact rfl
    ))
    | ((conv => whnf) <;> (first
    | (with_reducible refine and_side ?_ ?_)
    ))
    )
  all_goals (conv => whnf)
  all_goals (try dsimp only)
  refine RRight_call l (by omega) (Looks.ss _ _ _) fun H1 hg1 => ?_
  have b0 := hg1.2 0 _ rfl (by simp)
  have b1 := hg1.2 1 _ rfl (by simp)
  cases ho : okL l
  · have et : tkOk l ⟨g, lv, tw, a, n⟩ = false := by simp [tkOk, ho]
    have e1 : tkR l ⟨g, lv, tw, a, n⟩ = [] := by simp [tkR, et]
    have e2 : tkE l ⟨g, lv, tw, a, n⟩ = 1 := by simp [tkE, et, ho]
    have e3 : tkI l ⟨g, lv, tw, a, n⟩ = 0 := by simp [tkI, et]
    have e4 : tkG l ⟨g, lv, tw, a, n⟩ = 0 := by simp [tkG, et]
    rw [e1, e2, e3, e4]
    repeat' (first
      | ((with_reducible refine Side.intro ?_) <;> (first
      | exact Nat.le_of_ble_eq_true rfl
      | (simp only [List.append_nil, List.nil_append, List.map_nil]; first | exact List.nodup_nil | exact nodup_bid1 _ | exact nodup_bid2 (by assumption))
      | ((first | refine fresh_tup ?_ | skip); (repeat (first | exact fresh_ss _ |  exact FreshA.sl _ _ FreshA_bs | exact FreshA.sl _ _ FreshA_is | exact FreshA.nils | exact FreshA.nilp | exact FreshA.int _ _ | exact FreshA.bool _ | exact FreshA.str _ | exact fresh_nil | refine fresh_cons ?_ ?_ | with_reducible refine fresh_aggR ?_ | with_reducible refine fresh_agg ?_ | with_reducible exact fresh_nilA | with_reducible refine fresh_consA ?_ ?_)); done)
      | exact rfl
      ))
      | ((conv => whnf) <;> (first
      | (with_reducible refine and_same ?_)
      | (with_reducible refine and_side ?_ ?_)
      | ((with_reducible apply blkAt_intro) ; (focus (first
      | ((repeat (first
      | assumption
      | exact get_set (by assumption)
      )); done)
      )) ; (focus (first | rfl | assumption | omega)) ; (try dsimp only))
      | (with_reducible refine NOut.lit ?_)
      ))
      )
    all_goals (conv => whnf)
    all_goals (try dsimp only)
    exact ret_nilt rfl
  · have hL := (okL_iff.1 ho).2
    skip
    all_goals (conv => whnf)
    all_goals (try dsimp only)
    refine RNext_call l (by omega) (Looks.ss _ _ _) fun H2 hg2 => ?_
    replace b0 := hg2.2 0 _ (by (first
          | ((repeat (first
          | assumption
          )); done)
          )) (by simp)
    replace b1 := hg2.2 1 _ (by (first
          | ((repeat (first
          | assumption
          )); done)
          )) (by simp)
    cases hx : nxtOk l
    · have et : tkOk l ⟨g, lv, tw, a, n⟩ = false := by simp [tkOk, hx]
      have e1 : tkR l ⟨g, lv, tw, a, n⟩ = [] := by simp [tkR, et]
      have e2 : tkE l ⟨g, lv, tw, a, n⟩ = 9 := by simp [tkE, et, ho, hx]
      have e3 : tkI l ⟨g, lv, tw, a, n⟩ = 0 := by simp [tkI, et]
      have e4 : tkG l ⟨g, lv, tw, a, n⟩ = 0 := by simp [tkG, et]
      rw [e1, e2, e3, e4]
      repeat' (first
        | ((with_reducible refine Side.intro ?_) <;> (first
        | exact Nat.le_of_ble_eq_true rfl
        | (simp only [List.append_nil, List.nil_append, List.map_nil]; first | exact List.nodup_nil | exact nodup_bid1 _ | exact nodup_bid2 (by assumption))
        | ((first | refine fresh_tup ?_ | skip); (repeat (first | exact fresh_ss _ |  exact FreshA.sl _ _ FreshA_bs | exact FreshA.sl _ _ FreshA_is | exact FreshA.nils | exact FreshA.nilp | exact FreshA.int _ _ | exact FreshA.bool _ | exact FreshA.str _ | exact fresh_nil | refine fresh_cons ?_ ?_ | with_reducible refine fresh_aggR ?_ | with_reducible refine fresh_agg ?_ | with_reducible exact fresh_nilA | with_reducible refine fresh_consA ?_ ?_)); done)
        | exact rfl
        ))
        | ((conv => whnf) <;> (first
        | (with_reducible refine and_same ?_)
        | (with_reducible refine and_side ?_ ?_)
        | ((with_reducible apply blkAt_intro) ; (focus (first
        | ((repeat (first
        | assumption
        | exact get_set (by assumption)
        )); done)
        )) ; (focus (first | rfl | assumption | omega)) ; (try dsimp only))
        | (with_reducible refine NOut.lit ?_)
        ))
        )
      all_goals (conv => whnf)
      all_goals (try dsimp only)
      exact ret_nilt rfl
    · obtain ⟨hlt, hop⟩ := nxt_lt hx
      have hp := some_gat (l := l) (k := ((nxtV l : Nat) : Int).toNat) (by omega)
      have hgg : gat l ((nxtV l : Nat) : Int).toNat = gat l (nxtV l) := by rw [Int.toNat_natCast]
      have eS : tkS l ⟨g, lv, tw, a, n⟩ = ⟨(gat l (nxtV l)).g, true, tw, a, n⟩ := rfl
      rw [hgg] at hp
      generalize hk : nxtV l = k at *
      generalize gat l k = s at *
      obtain ⟨g', lv', tw', a', n'⟩ := s
      repeat' (first
        | (with_reducible exact Gr.side (by ((repeat (first | exact Gr.refl _ _ | assumption | with_reducible refine Gr.trans ?_ (Gr.boxN _ _ _ _ _) | refine Gr.setNew ?_ (by first | exact Nat.le_refl _ | (simp only [newB_length, List.length_set, List.length_append, List.length_singleton]; omega) | omega) _ | refine Gr.addN ?_ _ | refine Gr.newN ?_ _ _ _ | exact Gr.trans (by assumption) (by assumption) | refine Gr.trans ?_ (by assumption) | refine Gr.trans (by assumption) ?_)); (first | done | fail))) _)
        | ((with_reducible refine Side.intro ?_) <;> (first
        | omega
        | exact Nat.le_of_ble_eq_true rfl
        | exact rfl
        ))
        | ((conv => whnf) <;> (first
        | (with_reducible refine and_same ?_)
        | (with_reducible refine and_side ?_ ?_)
        | ((with_reducible apply blkAt_intro) ; (focus (first
        | ((repeat (first
        | assumption
        | exact get_new
        | exact get_set get_new
        )); done)
        )) ; (focus (first | rfl | assumption | omega)) ; (try dsimp only))
        | (with_reducible refine nthR_ss1 (by assumption) ?_)
        | (with_reducible refine ia_sl ?_ ?_)
        ))
        )
      all_goals (conv => whnf)
      all_goals (try dsimp only)
      refine Rright_call ⟨g', true, tw, a, n⟩ fun H3 hg3 => ?_
      have l2 := (List.getElem?_eq_some_iff.1 b1).1
      replace b1 := hg3.2 1 _ (by (first
            | ((repeat (first
            | assumption
            | apply get_old
            | (apply get_set_ne; (focus (first | omega | (simp only [newB_length, List.length_set, List.length_append, List.length_singleton, List.length_nil]; omega))))
            )); done)
            )) (by simp)
      have c1 := hg3.2 H2.length _ (by (first
            | ((repeat (first
            | exact get_set get_new
            )); done)
            )) (by simp)
      have l3 := (List.getElem?_eq_some_iff.1 c1).1
      cases hr : okS ⟨g', true, tw, a, n⟩
      · have et : tkOk l ⟨g, lv, tw, a, n⟩ = false := by simp [tkOk, eS, hr]
        have e1 : tkR l ⟨g, lv, tw, a, n⟩ = [] := by simp [tkR, et]
        have e2 : tkE l ⟨g, lv, tw, a, n⟩ = 1 := by simp [tkE, et, ho, hx]
        have e3 : tkI l ⟨g, lv, tw, a, n⟩ = 0 := by simp [tkI, et]
        have e4 : tkG l ⟨g, lv, tw, a, n⟩ = 0 := by simp [tkG, et]
        rw [e1, e2, e3, e4]
        repeat' (first
          | ((with_reducible refine Side.intro ?_) <;> (first
          | exact Nat.le_of_ble_eq_true rfl
          | (simp only [List.append_nil, List.nil_append, List.map_nil]; first | exact List.nodup_nil | exact nodup_bid1 _ | exact nodup_bid2 (by assumption))
          | ((first | refine fresh_tup ?_ | skip); (repeat (first | exact fresh_ss _ |  exact FreshA.sl _ _ FreshA_bs | exact FreshA.sl _ _ FreshA_is | exact FreshA.nils | exact FreshA.nilp | exact FreshA.int _ _ | exact FreshA.bool _ | exact FreshA.str _ | exact fresh_nil | refine fresh_cons ?_ ?_ | with_reducible refine fresh_aggR ?_ | with_reducible refine fresh_agg ?_ | with_reducible exact fresh_nilA | with_reducible refine fresh_consA ?_ ?_)); done)
          | exact rfl
          ))
          | ((conv => whnf) <;> (first
          | (with_reducible refine and_same ?_)
          | (with_reducible refine and_side ?_ ?_)
          | ((with_reducible apply blkAt_intro) ; (focus (first
          | ((repeat (first
          | assumption
          | exact get_set (by assumption)
          )); done)
          )) ; (focus (first | rfl | assumption | omega)) ; (try dsimp only))
          | (with_reducible refine NOut.lit ?_)
          ))
          )
        all_goals (conv => whnf)
        all_goals (try dsimp only)
        exact ret_nilt rfl
      · have et : tkOk l ⟨g, lv, tw, a, n⟩ = true := by simp [tkOk, eS, hr, ho, hx]
        have e1 : tkR l ⟨g, lv, tw, a, n⟩ = l.set k ⟨g', true, tw, a, n⟩ := by simp [tkR, et, eS, hk]
        have e2 : tkE l ⟨g, lv, tw, a, n⟩ = 0 := by simp [tkE, et]
        have e3 : tkI l ⟨g, lv, tw, a, n⟩ = (k : Nat) := by simp [tkI, et, hk]
        have e4 : tkG l ⟨g, lv, tw, a, n⟩ = g' := by simp [tkG, et, eS]
        rw [e1, e2, e3, e4]
        have er : List.take (0 + (ss l).length) ((List.take 0 (List.replicate 0 [AV.int .i64 0, .bool false, .bool false, .int .i64 0, .int .i64 0]) ++ ss l).set (0 + (k : Int).toNat) [.int .i64 g', .bool true, .bool tw, .int .i64 a, .int .i64 n]) = ss (l.set k ⟨g', true, tw, a, n⟩) := by
          have h1 := ss_set l k ⟨g', true, tw, a, n⟩
          have h2 : (List.take 0 (List.replicate 0 [AV.int .i64 0, .bool false, .bool false, .int .i64 0, .int .i64 0]) ++ ss l) = ss l := rfl
          rw [h2, Nat.zero_add, Nat.zero_add, Int.toNat_natCast, ← h1, List.take_of_length_le (by rw [List.length_set]; exact Nat.le_refl _)]
        repeat' (first
          | ((with_reducible refine Side.intro ?_) <;> (first
          | omega
          | exact Nat.le_of_ble_eq_true rfl
          | exact rfl
          ))
          | ((conv => whnf) <;> (first
          | (with_reducible refine and_same ?_)
          | (with_reducible refine and_side ?_ ?_)
          | ((with_reducible apply blkAt_intro) ; (focus (first
          | ((repeat (first
          | assumption
          | exact get_set get_new
          | apply get_old
          | (apply get_set_ne; (focus (first | omega | (simp only [newB_length, List.length_set, List.length_append, List.length_singleton, List.length_nil]; omega))))
          )); done)
          )) ; (focus (first | rfl | assumption | omega)) ; (try dsimp only))
          | ((with_reducible apply appendR_lit) ; (focus (first
          | ((repeat (first
          | exact get_new
          )); done)
          )) ; (focus (first | rfl | assumption)) ; (focus rfl) ; (focus rfl) ; (focus rfl) ; (focus (first | exact Nat.zero_le _ | omega | (simp; done) | (simp; omega))) ; (try dsimp only))
          | (with_reducible refine IaW.of ?_)
          | (with_reducible refine nthR_z ?_)
          | (with_reducible refine rowsR_sl ?_)
          ))
          )
        all_goals (conv => whnf)
        all_goals (try dsimp only)
        all_goals
          show nthR (ss l) _ _
          refine nthR_ss1 hp ?_
          repeat' (first
            | ((with_reducible refine Side.intro ?_) <;> (first
            | exact Nat.le_of_ble_eq_true rfl
            | (simp only [bs_length, List.length_append, List.length_cons, List.length_nil, List.length_take, List.length_drop, List.length_set, List.length_replicate]; omega)
            | exact rfl
            | (simp; done)
            ))
            | ((conv => whnf) <;> (first
            | (with_reducible refine and_same ?_)
            | (with_reducible refine and_side ?_ ?_)
            | ((with_reducible apply blkAt_intro) ; (focus (first
            | ((repeat (first
            | assumption
            | exact get_set get_new
            | with_reducible apply get_set
            | apply get_old
            | (apply get_set_ne; (focus (first | omega | (simp only [newB_length, List.length_set, List.length_append, List.length_singleton, List.length_nil]; omega))))
            )); done)
            )) ; (focus (first | rfl | assumption | omega)) ; (try dsimp only))
            | (with_reducible refine NOut.lit ?_)
            ))
            )
          all_goals (conv => whnf)
          all_goals (try dsimp only)
        all_goals rw [er]
        all_goals first
          | exact ret_same rfl
          | exact Side.intro (fresh_tup (fresh_cons (fresh_ss _) (fresh_cons (fresh_agg (fresh_consA (FreshA.int _ _) (fresh_consA (FreshA.int _ _) fresh_nilA))) (fresh_cons (FreshA.int _ _) fresh_nil))))
theorem RTake_call (l : List Sl) (s : Sl) (hs : l.length ≤ 4611686018) {σ : AH} {x : AV} (hx : Looks σ x (.sl 5 (ss l) false)) {Q : AV → AH → Prop} (h : ∀ σ' y, Gr σ σ' none → Own σ' 5 y (ss (tkR l s)) → New σ y → Q (.tup [y, hav (tkI l s) (tkG l s), .int .i64 (tkE l s)]) σ') : CallS Try.prog F.joistref08_Take [x, s.av] σ Q :=
  call_sl2 (RTake_ok l s hs) (.cons hx (.cons (.same rfl) .nil)) rfl rfl h
theorem Free_call (l : List Sl) (k : Int) (hs : l.length ≤ 4611686018) {σ : AH} {x : AV} (hx : Looks σ x (.sl 5 (ss l) false)) {Q : AV → AH → Prop} (h : ∀ σ' y, Gr σ σ' none → Own σ' 5 y (ss (frR l k)) → New σ y → Q (.tup [y, .int .i64 (frE l k)]) σ') : CallS Try.prog F.table_Free [x, .int .i64 k] σ Q :=
  call_sl1 (Free_ok l k hs) (.cons hx (.cons (.int _ _ _) .nil)) rfl h
theorem RFree_ok (l : List Sl) (k : Int) (hs : l.length ≤ 4611686018) : AOKn Try.prog F.joistref08_Free [.sl 5 (ss l) false, .int .i64 k] fun y => y = .tup [.sl 5 (ss (frR l k)) true, .int .i64 (frE l k)] := by
  have hn := ss_length l
  refine AOKn.by_steps mixed fc_joistref08_Free_ok (by simp [fc_joistref08_Free]) ?_
  skip
  all_goals (conv => whnf)
  all_goals (try dsimp only)
  refine RRight_call l (by omega) (Looks.ss _ _ _) fun H1 hg1 => ?_
  cases ho : okL l
  · have et : frOk l k = false := by simp [frOk, ho]
    have e1 : frR l k = [] := by simp [frR, et]
    have e2 : frE l k = 1 := by simp [frE, et]
    rw [e1, e2]
    repeat' (first
      | ((with_reducible refine Side.intro ?_) <;> (first
      | (simp only [List.append_nil, List.nil_append, List.map_nil]; first | exact List.nodup_nil | exact nodup_bid1 _ | exact nodup_bid2 (by assumption))
      | ((first | refine fresh_tup ?_ | skip); (repeat (first | exact fresh_ss _ |  exact FreshA.sl _ _ FreshA_bs | exact FreshA.sl _ _ FreshA_is | exact FreshA.nils | exact FreshA.nilp | exact FreshA.int _ _ | exact FreshA.bool _ | exact FreshA.str _ | exact fresh_nil | refine fresh_cons ?_ ?_ | with_reducible refine fresh_aggR ?_ | with_reducible refine fresh_agg ?_ | with_reducible exact fresh_nilA | with_reducible refine fresh_consA ?_ ?_)); done)
      ))
      | ((conv => whnf) <;> (first
      | (with_reducible refine and_side ?_ ?_)
      | (with_reducible refine NOut.lit ?_)
      ))
      )
    all_goals (conv => whnf)
    all_goals (try dsimp only)
    exact ret_nilt rfl
  · have hL := (okL_iff.1 ho).2
    by_cases hk : 0 ≤ k ∧ k < l.length
    · obtain ⟨j, rfl⟩ : ∃ j : Nat, k = j := ⟨k.toNat, by omega⟩
      have hj : ((j : Nat) : Int).toNat = j := Int.toNat_natCast j
      have hp := some_gat (l := l) (k := (j : Int).toNat) (by omega)
      have hS := okS_g (okS_gat ho (k := (j : Int).toNat) (by omega))
      generalize hkk : (j : Int) = k at *
      have ef : frS l k = ⟨min ((gat l k.toNat).g + 1) 65535, false, false, 0, 0⟩ := rfl
      have et : frOk l k = (gat l k.toNat).lv := by simp [frOk, ho, hk]
      generalize gat l k.toNat = s at *
      obtain ⟨g, lv, tw, a, n⟩ := s
      cases lv
      · have e1 : frR l k = [] := by simp [frR, et]
        have e2 : frE l k = 1 := by simp [frE, et]
        rw [e1, e2]
        repeat' (first
          | ((with_reducible refine Side.intro ?_) <;> (first
          | omega
          | (simp only [List.append_nil, List.nil_append, List.map_nil]; first | exact List.nodup_nil | exact nodup_bid1 _ | exact nodup_bid2 (by assumption))
          | ((first | refine fresh_tup ?_ | skip); (repeat (first | exact fresh_ss _ |  exact FreshA.sl _ _ FreshA_bs | exact FreshA.sl _ _ FreshA_is | exact FreshA.nils | exact FreshA.nilp | exact FreshA.int _ _ | exact FreshA.bool _ | exact FreshA.str _ | exact fresh_nil | refine fresh_cons ?_ ?_ | with_reducible refine fresh_aggR ?_ | with_reducible refine fresh_agg ?_ | with_reducible exact fresh_nilA | with_reducible refine fresh_consA ?_ ?_)); done)
          ))
          | ((conv => whnf) <;> (first
          | (with_reducible refine and_same ?_)
          | (with_reducible refine and_side ?_ ?_)
          | (with_reducible refine Br.no (by omega) ?_)
          | (with_reducible refine nthR_ss1 (by assumption) ?_)
          | (with_reducible refine ia_sl ?_ ?_)
          | (with_reducible refine NOut.lit ?_)
          | (with_reducible refine lenR_sl ?_)
          ))
          )
        all_goals (conv => whnf)
        all_goals (try dsimp only)
        exact ret_nilt rfl
      · have e1 : frR l k = l.set k.toNat (frS l k) := by simp [frR, et]
        have e2 : frE l k = 0 := by simp [frE, et]
        rw [e1, e2, ef]
        dsimp only at hS ⊢
        have er : ∀ v : Int, List.take (0 + (ss l).length) ((List.take 0 (List.replicate 0 [AV.int .i64 0, .bool false, .bool false, .int .i64 0, .int .i64 0]) ++ ss l).set (0 + k.toNat) [.int .i64 v, .bool false, .bool false, .int .i64 0, .int .i64 0]) = ss (l.set k.toNat ⟨v, false, false, 0, 0⟩) := by
          intro v
          have h1 := ss_set l k.toNat ⟨v, false, false, 0, 0⟩
          have h2 : (List.take 0 (List.replicate 0 [AV.int .i64 0, .bool false, .bool false, .int .i64 0, .int .i64 0]) ++ ss l) = ss l := rfl
          rw [h2, Nat.zero_add, Nat.zero_add, ← h1, List.take_of_length_le (by rw [List.length_set]; exact Nat.le_refl _)]
        by_cases hm : 65535 < g + 1
        · rw [show min (g + 1) 65535 = 65535 from by omega]
          repeat' (first
            | ((with_reducible refine Side.intro ?_) <;> (first
            | omega
            | exact Nat.le_of_ble_eq_true rfl
            | exact rfl
            ))
            | ((conv => whnf) <;> (first
            | (with_reducible refine and_same ?_)
            | (with_reducible refine and_side ?_ ?_)
            | (with_reducible refine Br.yes (by omega) ?_)
            | (with_reducible refine Br.no (by omega) ?_)
            | ((with_reducible apply blkAt_intro) ; (focus (first
            | ((repeat (first
            | exact get_set get_new
            )); done)
            )) ; (focus (first | rfl | assumption | omega)) ; (try dsimp only))
            | (with_reducible refine nthR_ss1 (by assumption) ?_)
            | ((with_reducible apply appendR_lit) ; (focus (first
            | ((repeat (first
            | exact get_new
            )); done)
            )) ; (focus (first | rfl | assumption)) ; (focus rfl) ; (focus rfl) ; (focus rfl) ; (focus (first | exact Nat.zero_le _ | omega | (simp; done) | (simp; omega))) ; (try dsimp only))
            | (with_reducible refine ia_sl ?_ ?_)
            | (with_reducible refine IaW.of ?_)
            | (with_reducible refine nthR_z ?_)
            | (with_reducible refine lenR_sl ?_)
            | (with_reducible refine rowsR_sl ?_)
            ))
            )
          all_goals (conv => whnf)
          all_goals (try dsimp only)
          all_goals
            show nthR (ss l) _ _
            refine nthR_ss1 hp ?_
            repeat' (first
              | ((with_reducible refine Side.intro ?_) <;> (first
              | exact Nat.le_of_ble_eq_true rfl
              | (simp only [bs_length, List.length_append, List.length_cons, List.length_nil, List.length_take, List.length_drop, List.length_set, List.length_replicate]; omega)
              | exact rfl
              | (simp; done)
              ))
              | ((conv => whnf) <;> (first
              | (with_reducible refine and_same ?_)
              | (with_reducible refine and_side ?_ ?_)
              | ((with_reducible apply blkAt_intro) ; (focus (first
              | ((repeat (first
              | exact get_set get_new
              | with_reducible apply get_set
              )); done)
              )) ; (focus (first | rfl | assumption | omega)) ; (try dsimp only))
              | (with_reducible refine NOut.lit ?_)
              ))
              )
            all_goals (conv => whnf)
            all_goals (try dsimp only)
          all_goals rw [er]
          all_goals first
            | exact ret_same rfl
            | exact Side.intro (fresh_tup (fresh_cons (fresh_ss _) (fresh_cons (FreshA.int _ _) fresh_nil)))
        · rw [show min (g + 1) 65535 = g + 1 from by omega]
          repeat' (first
            | ((with_reducible refine Side.intro ?_) <;> (first
            | omega
            | exact Nat.le_of_ble_eq_true rfl
            | exact rfl
            ))
            | ((conv => whnf) <;> (first
            | (with_reducible refine and_same ?_)
            | (with_reducible refine and_side ?_ ?_)
            | (with_reducible refine Br.yes (by omega) ?_)
            | (with_reducible refine Br.no (by omega) ?_)
            | ((with_reducible apply blkAt_intro) ; (focus (first
            | ((repeat (first
            | exact get_set get_new
            )); done)
            )) ; (focus (first | rfl | assumption | omega)) ; (try dsimp only))
            | (with_reducible refine nthR_ss1 (by assumption) ?_)
            | ((with_reducible apply appendR_lit) ; (focus (first
            | ((repeat (first
            | exact get_new
            )); done)
            )) ; (focus (first | rfl | assumption)) ; (focus rfl) ; (focus rfl) ; (focus rfl) ; (focus (first | exact Nat.zero_le _ | omega | (simp; done) | (simp; omega))) ; (try dsimp only))
            | (with_reducible refine ia_sl ?_ ?_)
            | (with_reducible refine IaW.of ?_)
            | (with_reducible refine nthR_z ?_)
            | (with_reducible refine lenR_sl ?_)
            | (with_reducible refine rowsR_sl ?_)
            ))
            )
          all_goals (conv => whnf)
          all_goals (try dsimp only)
          all_goals
            show nthR (ss l) _ _
            refine nthR_ss1 hp ?_
            repeat' (first
              | ((with_reducible refine Side.intro ?_) <;> (first
              | exact Nat.le_of_ble_eq_true rfl
              | (simp only [bs_length, List.length_append, List.length_cons, List.length_nil, List.length_take, List.length_drop, List.length_set, List.length_replicate]; omega)
              | exact rfl
              | (simp; done)
              ))
              | ((conv => whnf) <;> (first
              | (with_reducible refine and_same ?_)
              | (with_reducible refine and_side ?_ ?_)
              | ((with_reducible apply blkAt_intro) ; (focus (first
              | ((repeat (first
              | exact get_set get_new
              | with_reducible apply get_set
              )); done)
              )) ; (focus (first | rfl | assumption | omega)) ; (try dsimp only))
              | (with_reducible refine NOut.lit ?_)
              ))
              )
            all_goals (conv => whnf)
            all_goals (try dsimp only)
          all_goals rw [er]
          all_goals first
            | exact ret_same rfl
            | exact Side.intro (fresh_tup (fresh_cons (fresh_ss _) (fresh_cons (FreshA.int _ _) fresh_nil)))
    · have et : frOk l k = false := by simp [frOk, hk]
      have e1 : frR l k = [] := by simp [frR, et]
      have e2 : frE l k = 1 := by simp [frE, et]
      rw [e1, e2]
      repeat' (first
        | ((with_reducible refine Side.intro ?_) <;> (first
        | (simp only [List.append_nil, List.nil_append, List.map_nil]; first | exact List.nodup_nil | exact nodup_bid1 _ | exact nodup_bid2 (by assumption))
        | ((first | refine fresh_tup ?_ | skip); (repeat (first | exact fresh_ss _ |  exact FreshA.sl _ _ FreshA_bs | exact FreshA.sl _ _ FreshA_is | exact FreshA.nils | exact FreshA.nilp | exact FreshA.int _ _ | exact FreshA.bool _ | exact FreshA.str _ | exact fresh_nil | refine fresh_cons ?_ ?_ | with_reducible refine fresh_aggR ?_ | with_reducible refine fresh_agg ?_ | with_reducible exact fresh_nilA | with_reducible refine fresh_consA ?_ ?_)); done)
        ))
        | ((conv => whnf) <;> (first
        | (with_reducible refine and_same ?_)
        | (with_reducible refine and_side ?_ ?_)
        | (with_reducible refine Br.yes (by omega) ?_)
        | (with_reducible refine Br.mk (fun _ => ?_) (fun _ => ?_))
        | (with_reducible refine NOut.lit ?_)
        | (with_reducible refine lenR_sl ?_)
        ))
        )
      all_goals (conv => whnf)
      all_goals (try dsimp only)
      all_goals exact ret_nilt rfl
theorem RFree_call (l : List Sl) (k : Int) (hs : l.length ≤ 4611686018) {σ : AH} {x : AV} (hx : Looks σ x (.sl 5 (ss l) false)) {Q : AV → AH → Prop} (h : ∀ σ' y, Gr σ σ' none → Own σ' 5 y (ss (frR l k)) → New σ y → Q (.tup [y, .int .i64 (frE l k)]) σ') : CallS Try.prog F.joistref08_Free [x, .int .i64 k] σ Q :=
  call_sl1 (RFree_ok l k hs) (.cons hx (.cons (.int _ _ _) .nil)) rfl h
end Go.Proofs.Ytbmocdcfcdmmkaa
