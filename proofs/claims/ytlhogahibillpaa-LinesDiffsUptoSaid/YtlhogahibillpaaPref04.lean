import Derived.Test.YtlhogahibillpaaPlines
namespace Go.Proofs.Ytlhogahibillpaa
open Go Go.Proofs.Ytlhogahibillpaa.V
set_option maxRecDepth 20000
attribute [local irreducible] CallS AOK AOKn ALoop Side Ref.ok
theorem ref_Right_ok (n : Int) (L : List (Int × List UInt8)) (hL : L.length ≤ 4611686018427) : AOKn Try.prog F.joistref04_Right [.int .i64 n, .sl 2 (chg false L) false] fun y => y = .bool (rightB n L) := by
  have hm := chg_length false L
  refine AOKn.by_steps mixed fc_joistref04_Right_ok (by simp [fc_joistref04_Right]) ?_
  skip
  all_goals (conv => whnf)
  all_goals (try dsimp only)
  refine loop_at (α := Nat) (fun a => [(5, .int .i64 a)]) (fun a => [])
      (fun a => a ≤ L.length ∧ ∀ j, j < a → okAt n L j = true) (fun a => L.length - a) 0 ⟨by omega, by simp⟩ rfl rfl ?_
  rintro k ⟨hk, hok⟩
  repeat' (first
    | ((with_reducible refine Side.intro ?_) <;> (first
    | omega
    | (simp only [List.append_nil, List.nil_append, List.map_nil]; first | exact List.nodup_nil | exact nodup_bid1 _ | exact nodup_bid2 (by assumption))
    | ((first | refine fresh_tup ?_ | skip); (repeat (first | exact fresh_chg _ |  exact FreshA.sl _ _ FreshA_bs | exact FreshA.sl _ _ FreshA_is | exact FreshA.nils | exact FreshA.nilp | exact FreshA.int _ _ | exact FreshA.bool _ | exact FreshA.str _ | exact fresh_nil | refine fresh_cons ?_ ?_ | with_reducible refine fresh_aggR ?_ | with_reducible refine fresh_agg ?_ | with_reducible exact fresh_nilA | with_reducible refine fresh_consA ?_ ?_)); done)
    ))
    | ((conv => whnf) <;> (first
    | (with_reducible refine and_same ?_)
    | (with_reducible refine and_side ?_ ?_)
    | (with_reducible refine Br.mk (fun _ => ?_) (fun _ => ?_))
    | (with_reducible refine ia_sl ?_ ?_)
    | (with_reducible refine NOut.lit ?_)
    | (with_reducible refine lenR_sl ?_)
    ))
    )
  all_goals (conv => whnf)
  all_goals (try dsimp only)
  · obtain ⟨p, hp, hpk⟩ := getN (l := L) (k := k) (by omega)
    repeat' (first
      | ((with_reducible refine Side.intro ?_) <;> (first
      | omega
      | (simp only [List.append_nil, List.nil_append, List.map_nil]; first | exact List.nodup_nil | exact nodup_bid1 _ | exact nodup_bid2 (by assumption))
      | ((first | refine fresh_tup ?_ | skip); (repeat (first | exact fresh_chg _ |  exact FreshA.sl _ _ FreshA_bs | exact FreshA.sl _ _ FreshA_is | exact FreshA.nils | exact FreshA.nilp | exact FreshA.int _ _ | exact FreshA.bool _ | exact FreshA.str _ | exact fresh_nil | refine fresh_cons ?_ ?_ | with_reducible refine fresh_aggR ?_ | with_reducible refine fresh_agg ?_ | with_reducible exact fresh_nilA | with_reducible refine fresh_consA ?_ ?_)); done)
      ))
      | ((conv => whnf) <;> (first
      | (with_reducible refine and_same ?_)
      | (with_reducible refine and_side ?_ ?_)
      | ((with_reducible apply Br.yes) ; (focus omega))
      | (with_reducible refine Br.mk (fun _ => ?_) (fun _ => ?_))
      | ((with_reducible apply nthR_chg1) ; (focus assumption))
      | (with_reducible refine ia_sl ?_ ?_)
      | (with_reducible refine NOut.lit ?_)
      | (with_reducible refine lenR_sl ?_)
      ))
      )
    all_goals (conv => whnf)
    all_goals (try dsimp only)
    · exact ret_bool (rightB_false (j := k) (by omega) (by simp [okAt, hpk]; omega)).symm
    · exact ret_bool (rightB_false (j := k) (by omega) (by simp [okAt, hpk]; omega)).symm
    · have := bs_length p.2
      exact ret_bool (rightB_false (j := k) (by omega) (by simp [okAt, hpk]; omega)).symm
    · have hpl := bs_length p.2
      have hf : 0 ≤ p.1 ∧ p.1 < n ∧ p.2.length = 64 := by omega
      obtain ⟨q, hq⟩ : ∃ q, L[((k : Int) - 1).toNat]? = some q := ⟨_, List.getElem?_eq_getElem (by omega)⟩
      have hok1 : okAt n L k = decide (q.1 < p.1) := by
        cases k with
        | zero => omega
        | succ i =>
          have e1 : (((i + 1 : Nat) : Int) - 1).toNat = i := by omega
          rw [e1] at hq
          simp [okAt, hpk, hf, hq]
      repeat' (first
        | ((with_reducible refine Side.intro ?_) <;> (first
        | (simp only [List.append_nil, List.nil_append, List.map_nil]; first | exact List.nodup_nil | exact nodup_bid1 _ | exact nodup_bid2 (by assumption))
        | ((first | refine fresh_tup ?_ | skip); (repeat (first | exact fresh_chg _ |  exact FreshA.sl _ _ FreshA_bs | exact FreshA.sl _ _ FreshA_is | exact FreshA.nils | exact FreshA.nilp | exact FreshA.int _ _ | exact FreshA.bool _ | exact FreshA.str _ | exact fresh_nil | refine fresh_cons ?_ ?_ | with_reducible refine fresh_aggR ?_ | with_reducible refine fresh_agg ?_ | with_reducible exact fresh_nilA | with_reducible refine fresh_consA ?_ ?_)); done)
        ))
        | ((conv => whnf) <;> (first
        | (with_reducible refine and_same ?_)
        | (with_reducible refine and_side ?_ ?_)
        | ((with_reducible apply Br.yes) ; (focus omega))
        | (with_reducible refine Br.mk (fun _ => ?_) (fun _ => ?_))
        | ((with_reducible apply nthR_chg1) ; (focus assumption))
        | (with_reducible refine NOut.lit ?_)
        ))
        )
      all_goals (conv => whnf)
      all_goals (try dsimp only)
      · exact ret_bool (rightB_false (j := k) (by omega) (by rw [hok1]; simpa using ‹p.1 ≤ q.1›)).symm
      · refine ⟨k + 1, rfl, rfl, ⟨by omega, fun j hj => ?_⟩, by omega⟩
        by_cases e : j = k
        · subst e; rw [hok1]; simp only [decide_eq_true_eq]; omega
        · exact hok j (by omega)
    · have hpl := bs_length p.2
      have hf : 0 ≤ p.1 ∧ p.1 < n ∧ p.2.length = 64 := by omega
      refine ⟨k + 1, rfl, rfl, ⟨by omega, fun j hj => ?_⟩, by omega⟩
      by_cases e : j = k
      · subst e
        have hk0 : j = 0 := by omega
        subst hk0
        simp [okAt, hpk, hf]
      · exact hok j (by omega)
  · exact ret_same (by rw [rightB_true (fun j hj => hok j (by omega))])
theorem ref_Same_ok (L M : List (Int × List UInt8)) (hL : L.length ≤ 4611686018427) (hM : M.length ≤ 4611686018427) : AOKn Try.prog F.joistref04_Same [.sl 2 (chg false L) false, .sl 2 (chg false M) false] fun y => y = .bool (decide (L = M)) := by
  have hm := chg_length false L
  have hn := chg_length false M
  refine AOKn.by_steps mixed fc_joistref04_Same_ok (by simp [fc_joistref04_Same]) ?_
  repeat' (first
    | ((with_reducible refine Side.intro ?_) <;> (first
    | (simp only [List.append_nil, List.nil_append, List.map_nil]; first | exact List.nodup_nil | exact nodup_bid1 _ | exact nodup_bid2 (by assumption))
    | ((first | refine fresh_tup ?_ | skip); (repeat (first | exact fresh_chg _ |  exact FreshA.sl _ _ FreshA_bs | exact FreshA.sl _ _ FreshA_is | exact FreshA.nils | exact FreshA.nilp | exact FreshA.int _ _ | exact FreshA.bool _ | exact FreshA.str _ | exact fresh_nil | refine fresh_cons ?_ ?_ | with_reducible refine fresh_aggR ?_ | with_reducible refine fresh_agg ?_ | with_reducible exact fresh_nilA | with_reducible refine fresh_consA ?_ ?_)); done)
    ))
    | ((conv => whnf) <;> (first
    | (with_reducible refine and_same ?_)
    | (with_reducible refine and_side ?_ ?_)
    | (with_reducible refine Br.mk (fun _ => ?_) (fun _ => ?_))
    | (with_reducible refine NOut.lit ?_)
    | (with_reducible refine lenR_sl ?_)
    ))
    )
  all_goals (conv => whnf)
  all_goals (try dsimp only)
  · rename_i h
    exact ret_same (by rw [decide_eq_false (fun e => h (by rw [e]))])
  refine loop_at (α := Nat) (fun a => [(5, .int .i64 a)]) (fun a => [])
      (fun a => a ≤ L.length ∧ ∀ j, j < a → L[j]? = M[j]?) (fun a => L.length - a) 0 ⟨by omega, by simp⟩ rfl rfl ?_
  rintro k ⟨hk, hok⟩
  repeat' (first
    | ((with_reducible refine Side.intro ?_) <;> (first
    | omega
    | (simp only [List.append_nil, List.nil_append, List.map_nil]; first | exact List.nodup_nil | exact nodup_bid1 _ | exact nodup_bid2 (by assumption))
    | ((first | refine fresh_tup ?_ | skip); (repeat (first | exact fresh_chg _ |  exact FreshA.sl _ _ FreshA_bs | exact FreshA.sl _ _ FreshA_is | exact FreshA.nils | exact FreshA.nilp | exact FreshA.int _ _ | exact FreshA.bool _ | exact FreshA.str _ | exact fresh_nil | refine fresh_cons ?_ ?_ | with_reducible refine fresh_aggR ?_ | with_reducible refine fresh_agg ?_ | with_reducible exact fresh_nilA | with_reducible refine fresh_consA ?_ ?_)); done)
    ))
    | ((conv => whnf) <;> (first
    | (with_reducible refine and_same ?_)
    | (with_reducible refine and_side ?_ ?_)
    | (with_reducible refine Br.mk (fun _ => ?_) (fun _ => ?_))
    | (with_reducible refine ia_sl ?_ ?_)
    | (with_reducible refine NOut.lit ?_)
    | (with_reducible refine lenR_sl ?_)
    ))
    )
  all_goals (conv => whnf)
  all_goals (try dsimp only)
  · obtain ⟨p, hp, hpk⟩ := getN (l := L) (k := k) (by omega)
    obtain ⟨q, hq, hqk⟩ := getN (l := M) (k := k) (by omega)
    repeat' (first
      | ((with_reducible refine Side.intro ?_) <;> (first
      | omega
      | (simp only [List.append_nil, List.nil_append, List.map_nil]; first | exact List.nodup_nil | exact nodup_bid1 _ | exact nodup_bid2 (by assumption))
      | ((first | refine fresh_tup ?_ | skip); (repeat (first | exact fresh_chg _ |  exact FreshA.sl _ _ FreshA_bs | exact FreshA.sl _ _ FreshA_is | exact FreshA.nils | exact FreshA.nilp | exact FreshA.int _ _ | exact FreshA.bool _ | exact FreshA.str _ | exact fresh_nil | refine fresh_cons ?_ ?_ | with_reducible refine fresh_aggR ?_ | with_reducible refine fresh_agg ?_ | with_reducible exact fresh_nilA | with_reducible refine fresh_consA ?_ ?_)); done)
      ))
      | ((conv => whnf) <;> (first
      | (with_reducible refine and_same ?_)
      | (with_reducible refine and_side ?_ ?_)
      | ((with_reducible apply Br.yes) ; (focus omega))
      | (with_reducible refine Br.mk (fun _ => ?_) (fun _ => ?_))
      | ((with_reducible apply nthR_chg1) ; (focus assumption))
      | (with_reducible refine ia_sl ?_ ?_)
      | (with_reducible refine NOut.lit ?_)
      | (with_reducible refine rowsR_sl ?_)
      | ((with_reducible apply bytesR_intro) ; (focus (first | rfl | (simp only [bs_take, bs_drop, bs_append]; rfl))))
      ))
      )
    all_goals (conv => whnf)
    all_goals (try dsimp only)
    · rename_i hne
      exact ret_bool (decide_eq_false fun e => hne (by subst e; rw [hpk] at hqk; cases hqk; rfl)).symm
    · rename_i hne
      exact ret_bool (decide_eq_false fun e => hne (by subst e; rw [hpk] at hqk; cases hqk; rfl)).symm
    · refine ⟨k + 1, rfl, rfl, ⟨by omega, fun j hj => ?_⟩, by omega⟩
      by_cases e : j = k
      · subst e
        rw [hpk, hqk]
        obtain ⟨p1, p2⟩ := p
        obtain ⟨q1, q2⟩ := q
        simp_all
      · exact hok j (by omega)
  · refine ret_bool (decide_eq_true ?_).symm
    apply List.ext_getElem?
    intro j
    by_cases hj : j < k
    · exact hok j hj
    · rw [List.getElem?_eq_none (by omega), List.getElem?_eq_none (by omega)]
section
theorem ref_Diff_ok (s t : List UInt8) (hs : s.length ≤ 4611686018427) (ht : t.length ≤ 4611686018427) : AOKn Try.prog F.joistref04_Diff [.sl 1 (bs s) false, .sl 1 (bs t) false]
    fun y => y = if s.length ≠ t.length ∨ s.length % 64 ≠ 0 then .tup [.nils, .int .i64 1] else .tup [.sl 2 (chg true (diffs s t (s.length / 64))) true, .int .i64 0] := by
  have hn := bs_length s
  have hm := bs_length t
  refine AOKn.by_steps mixed fc_joistref04_Diff_ok (by simp [fc_joistref04_Diff]) ?_
  repeat' (first
    | ((with_reducible refine Side.intro ?_) <;> (first
    | omega
    | (simp only [List.append_nil, List.nil_append, List.map_nil]; first | exact List.nodup_nil | exact nodup_bid1 _ | exact nodup_bid2 (by assumption))
    | ((first | refine fresh_tup ?_ | skip); (repeat (first | exact fresh_chg _ |  exact FreshA.sl _ _ FreshA_bs | exact FreshA.sl _ _ FreshA_is | exact FreshA.nils | exact FreshA.nilp | exact FreshA.int _ _ | exact FreshA.bool _ | exact FreshA.str _ | exact fresh_nil | refine fresh_cons ?_ ?_ | with_reducible refine fresh_aggR ?_ | with_reducible refine fresh_agg ?_ | with_reducible exact fresh_nilA | with_reducible refine fresh_consA ?_ ?_)); done)
    ))
    | ((conv => whnf) <;> (first
    | (with_reducible refine and_same ?_)
    | (with_reducible refine and_side ?_ ?_)
    | ((with_reducible apply Br.yes) ; (focus omega))
    | (with_reducible refine Br.mk (fun _ => ?_) (fun _ => ?_))
    | (with_reducible refine NOut.lit ?_)
    | (with_reducible refine lenR_sl ?_)
    ))
    )
  all_goals (conv => whnf)
  all_goals (try dsimp only)
  · exact ret_same (by rw [if_pos (.inl (by omega))])
  · exact ret_same (by rw [if_pos (.inr (by omega))])
  refine loop_at (α := Nat × AH × AV) (fun a => [(6, a.2.2), (7, .int .i64 a.1)]) (fun a => a.2.1)
      (fun a => a.1 ≤ s.length/64 ∧ Own a.2.1 2 a.2.2 (chg true (diffs s t a.1))) (fun a => s.length/64 - a.1) (0, [], .nils) ⟨by omega, Own.nil _ _⟩ rfl rfl ?_
  rintro ⟨i, σ, acc⟩ ⟨hi, hacc⟩
  dsimp only at hi hacc ⊢
  repeat' (first
    | ((with_reducible refine Side.intro ?_) <;> (first
    | omega
    | exact Nat.le_of_ble_eq_true rfl
    | (simp only [bs_length, List.length_append, List.length_cons, List.length_nil, List.length_take, List.length_drop, List.length_set, List.length_replicate]; omega)
    | (simp only [List.append_nil, List.nil_append, List.map_nil]; first | exact List.nodup_nil | exact nodup_bid1 _ | exact nodup_bid2 (by assumption))
    | ((first | refine fresh_tup ?_ | skip); (repeat (first | exact fresh_chg _ |  exact FreshA.sl _ _ FreshA_bs | exact FreshA.sl _ _ FreshA_is | exact FreshA.nils | exact FreshA.nilp | exact FreshA.int _ _ | exact FreshA.bool _ | exact FreshA.str _ | exact fresh_nil | refine fresh_cons ?_ ?_ | with_reducible refine fresh_aggR ?_ | with_reducible refine fresh_agg ?_ | with_reducible exact fresh_nilA | with_reducible refine fresh_consA ?_ ?_)); done)
    | exact rfl
    ))
    | ((conv => whnf) <;> (first
    | (with_reducible refine and_same ?_)
    | (with_reducible refine and_side ?_ ?_)
    | ((with_reducible apply Br.yes) ; (focus omega))
    | (with_reducible refine Br.mk (fun _ => ?_) (fun _ => ?_))
    | ((with_reducible apply blkAt_intro) ; (focus (first
    | ((repeat (first
    | exact get_new
    | exact get_set get_new
    | apply get_old
    )); done)
    )) ; (focus (first | rfl | assumption | omega)) ; (try dsimp only))
    | ((with_reducible apply appendR_lit) ; (focus (first
    | ((repeat (first
    | exact get_new
    )); done)
    )) ; (focus (first | rfl | assumption)) ; (focus rfl) ; (focus rfl) ; (focus rfl) ; (focus (first | exact Nat.zero_le _ | omega | (simp; done) | (simp; omega))) ; (try dsimp only))
    | (with_reducible refine SliceW.of ?_)
    | (with_reducible refine AppC.frz ?_)
    | ((with_reducible apply NOut.own) ; (focus assumption))
    | (with_reducible refine NOut.lit ?_)
    | (with_reducible refine lenR_sl ?_)
    | (with_reducible refine rowsR_sl ?_)
    | (with_reducible refine rowsR_rsl ?_)
    | ((with_reducible apply bytesR_intro) ; (focus (first | rfl | (simp only [bs_take, bs_drop, bs_append]; rfl))))
    ))
    )
  all_goals (conv => whnf)
  all_goals (try dsimp only)
  · have e1 : (64 * (i : Int)).toNat = i * 64 := by omega
    have e2 : (64 * ((i : Int) + 1)).toNat = (i + 1) * 64 := by omega
    rename_i he
    rw [e1, e2] at he
    simp only [e1, e2, bs_take, bs_drop]
    have hle : (diffs s t i).length ≤ i := diffs_le s t i
    refine appendR_own (rows := chg true (diffs s t i)) (hacc.keepN (by (repeat (first
          | exact Gr.refl _ _
          | refine Gr.setNew ?_ (by first | exact Nat.le_refl _ | (simp only [newB_length, List.length_set, List.length_append, List.length_singleton]; omega) | omega) _
          | refine Gr.addN ?_ _
          )))) (by rw [chg_length]; simp only [List.length_cons, List.length_nil]; omega) ?_
    intro acc' σ' ho' hg' hb'
    repeat' (first
      | ((conv => whnf) <;> (first
      | (with_reducible refine and_same ?_)
      | ((with_reducible apply Br.yes) ; (focus omega))
      ))
      )
    all_goals (conv => whnf)
    all_goals (try dsimp only)
    refine ⟨(i + 1, σ', acc'), rfl, rfl, ⟨by omega, ?_⟩, by omega⟩
    dsimp only
    rw [diffs_succ, if_pos (by exact he), chg_append]
    simpa [chg, ln] using ho'
  · refine ⟨(i + 1, σ, acc), rfl, rfl, ⟨by omega, ?_⟩, by omega⟩
    have e1 : (64 * (i : Int)).toNat = i * 64 := by omega
    have e2 : (64 * ((i : Int) + 1)).toNat = (i + 1) * 64 := by omega
    rename_i he
    rw [e1, e2] at he
    dsimp only
    rw [diffs_succ, if_neg (by exact he), List.append_nil]
    exact hacc
  · have hi' : i = s.length / 64 := by omega
    subst hi'
    exact ret_same (by rw [if_neg (by omega)])
end
def part (s : List UInt8) (p : Int × List UInt8) (j : Nat) : List UInt8 := s.take (p.1.toNat * 64) ++ p.2.take j ++ s.drop (p.1.toNat * 64 + j)
theorem part_zero (s : List UInt8) (p : Int × List UInt8) : part s p 0 = s := by simp [part]
theorem part_full {s : List UInt8} {p : Int × List UInt8} (h : p.2.length = 64) : part s p 64 = lay1 s p := by
  unfold part lay1; rw [List.take_of_length_le (l := p.2) (by omega)]
theorem part_length {s : List UInt8} {p : Int × List UInt8} {j : Nat} (h : p.2.length = 64) (hj : j ≤ 64) (hs : p.1.toNat * 64 + 64 ≤ s.length) : (part s p j).length = s.length := by
  simp only [part, List.length_append, List.length_take, List.length_drop]; omega
theorem part_succ {s : List UInt8} {p : Int × List UInt8} {j : Nat} {b : UInt8} (hj : j < 64) (hs : p.1.toNat * 64 + 64 ≤ s.length) (hb : p.2[j]? = some b) : (part s p j).set (p.1.toNat * 64 + j) b = part s p (j + 1) := by
  have hjl := (List.getElem?_eq_some_iff.1 hb).1
  unfold part
  rw [List.set_append_right _ _ (by simp; omega)]
  rw [show p.1.toNat * 64 + j - (List.take (p.1.toNat * 64) s ++ List.take j p.2).length = 0 from by simp; omega]
  rw [List.drop_eq_getElem_cons (by omega : p.1.toNat * 64 + j < s.length), List.set_cons_zero, List.take_add_one, hb]
  simp [Nat.add_assoc]
theorem ref_Apply_ok (s : List UInt8) (L : List (Int × List UInt8)) (hs : s.length ≤ 4611686018427) (hL : L.length ≤ 4611686018427) : AOKn Try.prog F.joistref04_Apply [.sl 1 (bs s) false, .sl 2 (chg false L) false]
    fun y => y = if s.length % 64 = 0 ∧ ∀ p, p ∈ L → Fits (s.length / 64) p then .tup [.sl 1 (bs (layL s L)) true, .int .i64 0] else .tup [.nils, .int .i64 1] := by
  have hn := bs_length s
  have hm := chg_length false L
  refine AOKn.by_steps mixed fc_joistref04_Apply_ok (by simp [fc_joistref04_Apply]) ?_
  repeat' (first
    | ((with_reducible refine Side.intro ?_) <;> (first
    | omega
    | (simp only [List.append_nil, List.nil_append, List.map_nil]; first | exact List.nodup_nil | exact nodup_bid1 _ | exact nodup_bid2 (by assumption))
    | ((first | refine fresh_tup ?_ | skip); (repeat (first | exact fresh_chg _ |  exact FreshA.sl _ _ FreshA_bs | exact FreshA.sl _ _ FreshA_is | exact FreshA.nils | exact FreshA.nilp | exact FreshA.int _ _ | exact FreshA.bool _ | exact FreshA.str _ | exact fresh_nil | refine fresh_cons ?_ ?_ | with_reducible refine fresh_aggR ?_ | with_reducible refine fresh_agg ?_ | with_reducible exact fresh_nilA | with_reducible refine fresh_consA ?_ ?_)); done)
    ))
    | ((conv => whnf) <;> (first
    | (with_reducible refine and_same ?_)
    | (with_reducible refine and_side ?_ ?_)
    | ((with_reducible apply Br.yes) ; (focus omega))
    | (with_reducible refine Br.mk (fun _ => ?_) (fun _ => ?_))
    | ((with_reducible apply appendR_lit) ; (focus (first
    | exact rfl
    )) ; (focus (first | rfl | assumption)) ; (focus rfl) ; (focus rfl) ; (focus rfl) ; (focus (first | exact Nat.zero_le _ | omega | (simp; done) | (simp; omega))) ; (try dsimp only))
    | (with_reducible refine AppC.frz ?_)
    | (with_reducible refine NOut.lit ?_)
    | (with_reducible refine lenR_sl ?_)
    | (with_reducible refine rowsR_sl ?_)
    ))
    )
  all_goals (conv => whnf)
  all_goals (try dsimp only)
  · exact ret_same (by rw [if_neg (by omega)])
  rename_i h64
  refine loop_at (α := Nat) (fun a => [(7, .int .i64 a)]) (fun a => [{ sz := 1, els := bs (layL s (L.take a)), gen := 1, wr := true, pure := true }])
    (fun a => a ≤ L.length ∧ ∀ p, p ∈ L.take a → Fits (s.length / 64) p) (fun a => L.length - a) 0 ⟨by omega, by simp⟩ rfl (by simp [layL, newB]) ?_
  rintro k ⟨hk, hfit⟩
  have hlen := bs_length (layL s (L.take k))
  have hlen2 : (layL s (L.take k)).length = s.length := layL_length rfl hfit
  repeat' (first
    | ((with_reducible refine Side.intro ?_) <;> (first
    | omega
    | (simp; done)
    ))
    | ((conv => whnf) <;> (first
    | (with_reducible refine and_same ?_)
    | (with_reducible refine and_side ?_ ?_)
    | (with_reducible refine Br.mk (fun _ => ?_) (fun _ => ?_))
    | ((with_reducible apply blkAt_intro) ; (focus (first
    | exact rfl
    )) ; (focus (first | rfl | assumption | omega)) ; (try dsimp only))
    | (with_reducible refine ia_sl ?_ ?_)
    | (with_reducible refine NOut.lit ?_)
    | (with_reducible refine lenR_sl ?_)
    ))
    )
  all_goals (conv => whnf)
  all_goals (try dsimp only)
  · obtain ⟨p, hp, hpk⟩ := getN (l := L) (k := k) (by omega)
    have hpl := bs_length p.2
    repeat' (first
      | ((with_reducible refine Side.intro ?_) <;> (first
      | omega
      | (simp only [List.append_nil, List.nil_append, List.map_nil]; first | exact List.nodup_nil | exact nodup_bid1 _ | exact nodup_bid2 (by assumption))
      | ((first | refine fresh_tup ?_ | skip); (repeat (first | exact fresh_chg _ |  exact FreshA.sl _ _ FreshA_bs | exact FreshA.sl _ _ FreshA_is | exact FreshA.nils | exact FreshA.nilp | exact FreshA.int _ _ | exact FreshA.bool _ | exact FreshA.str _ | exact fresh_nil | refine fresh_cons ?_ ?_ | with_reducible refine fresh_aggR ?_ | with_reducible refine fresh_agg ?_ | with_reducible exact fresh_nilA | with_reducible refine fresh_consA ?_ ?_)); done)
      ))
      | ((conv => whnf) <;> (first
      | (with_reducible refine and_same ?_)
      | (with_reducible refine and_side ?_ ?_)
      | ((with_reducible apply Br.yes) ; (focus omega))
      | (with_reducible refine Br.mk (fun _ => ?_) (fun _ => ?_))
      | ((with_reducible apply nthR_chg1) ; (focus assumption))
      | (with_reducible refine ia_sl ?_ ?_)
      | (with_reducible refine NOut.lit ?_)
      | (with_reducible refine lenR_sl ?_)
      ))
      )
    all_goals (conv => whnf)
    all_goals (try dsimp only)
    · exact ret_same (by rw [if_neg (fun q => by have := q.2 p (List.mem_of_getElem? hpk); obtain ⟨h1, h2, h3⟩ := this; omega)])
    · exact ret_same (by rw [if_neg (fun q => by have := q.2 p (List.mem_of_getElem? hpk); obtain ⟨h1, h2, h3⟩ := this; omega)])
    · exact ret_same (by rw [if_neg (fun q => by have := q.2 p (List.mem_of_getElem? hpk); obtain ⟨h1, h2, h3⟩ := this; omega)])
    have hf : Fits (s.length / 64) p := ⟨by omega, by omega, by omega⟩
    obtain ⟨q1, q2, q3⟩ := hf
    refine loop_at (α := Nat) (fun a => [(8, .int .i64 a)]) (fun a => [{ sz := 1, els := bs (part (layL s (L.take k)) p a), gen := 1, wr := true, pure := true }])
      (fun a => a ≤ 64) (fun a => 64 - a) 0 (by omega) rfl (by rw [part_zero]) ?_
    intro j hj
    have hlen3 := bs_length (part (layL s (L.take k)) p j)
    have hlen4 : (part (layL s (L.take k)) p j).length = s.length := by rw [part_length q3 hj (by omega), hlen2]
    repeat' (first
      | ((with_reducible refine Side.intro ?_) <;> (first
      | omega
      | exact Nat.le_of_ble_eq_true rfl
      | exact rfl
      ))
      | ((conv => whnf) <;> (first
      | (with_reducible refine and_same ?_)
      | (with_reducible refine and_side ?_ ?_)
      | ((with_reducible apply Br.yes) ; (focus omega))
      | (with_reducible refine Br.mk (fun _ => ?_) (fun _ => ?_))
      | ((with_reducible apply blkAt_intro) ; (focus (first
      | exact rfl
      )) ; (focus (first | rfl | assumption | omega)) ; (try dsimp only))
      | ((with_reducible apply nthR_chg1) ; (focus assumption))
      | (with_reducible refine ia_sl ?_ ?_)
      | (with_reducible refine IaW.of ?_)
      | (with_reducible refine nthR_z ?_)
      | ((with_reducible apply nthR_bs) ; (focus (first | omega | (simp only [List.length_append, List.length_cons, List.length_nil, List.length_take, List.length_drop, bs_length]; omega))))
      | (with_reducible intro _)
      ))
      )
    all_goals (conv => whnf)
    all_goals (try dsimp only)
    · rename_i b hb _ _ _ _
      have e1 : 0 + (64 * p.1 + (j : Int)).toNat = p.1.toNat * 64 + j := by omega
      refine ⟨j + 1, rfl, ?_, by omega, by omega⟩
      have hb' : p.2[j]? = some b := by simpa using hb
      rw [e1]
      simp only [List.length_nil, List.set_cons_zero]
      rw [bs_set, part_succ (by omega) (by omega) hb']
      rfl
    · refine ⟨k + 1, rfl, ?_, ⟨by omega, fun q hq => ?_⟩, by omega⟩
      · have hj64 : j = 64 := by omega
        subst hj64
        have e1 : (layL s (L.take (k + 1))) = lay1 (layL s (L.take k)) p := by
          rw [List.take_add_one, hpk]
          simp [layL]
        rw [e1, part_full q3]
      · rw [List.take_add_one, hpk] at hq
        simp only [Option.toList_some, List.mem_append, List.mem_singleton] at hq
        rcases hq with hq | rfl
        · exact hfit q hq
        · exact ⟨q1, q2, q3⟩
  · have hkL : k = L.length := by omega
    subst hkL
    rw [List.take_length] at hfit hlen hlen2 ⊢
    refine ret_same ?_
    rw [if_pos ⟨by omega, hfit⟩, List.take_of_length_le (by omega)]
  · have hkL : k = L.length := by omega
    subst hkL
    rw [List.take_length] at hlen hlen2 ⊢
    refine Side.intro ?_
    rw [List.take_of_length_le (by omega)]
    exact fresh_cons (fresh_bs _) (fresh_cons (FreshA.int _ _) fresh_nil)
end Go.Proofs.Ytlhogahibillpaa
