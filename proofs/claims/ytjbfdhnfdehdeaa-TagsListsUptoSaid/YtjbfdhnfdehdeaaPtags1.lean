import Derived.Test.YtjbfdhnfdehdeaaPref10
namespace Go.Proofs.Ytjbfdhnfdehdeaa
open Go Go.Proofs.Ytjbfdhnfdehdeaa.V
set_option maxRecDepth 20000
attribute [local irreducible] CallS AOK AOKn ALoop Side Ref.ok
/-! ### Lists of sizes -/
def lw (s : Int) : Nat := if s ≤ 4 then 0 else if s ≤ 8 then 1 else if s ≤ 16 then 2 else if s ≤ 32 then 3 else if s ≤ 64 then 4 else if s ≤ 128 then 5 else 6
def lsV (s : Int) : Int := if 4 ≤ s then (lw s : Nat) else 0
def lsB (s : Int) : Bool := decide (4 ≤ s)
def tp (k : Nat) : Int := if k = 0 then 4 else if k = 1 then 8 else if k = 2 then 16 else if k = 3 then 32 else if k = 4 then 64 else if k = 5 then 128 else 256
theorem tp_succ {k : Nat} (h : k < 6) : tp (k + 1) = tp k * 2 := by
  have : k = 0 ∨ k = 1 ∨ k = 2 ∨ k = 3 ∨ k = 4 ∨ k = 5 := by omega
  rcases this with rfl | rfl | rfl | rfl | rfl | rfl <;> rfl
theorem tp_bd (k : Nat) : 4 ≤ tp k ∧ tp k ≤ 256 := by
  unfold tp
  split <;> (try split) <;> (try split) <;> (try split) <;> (try split) <;> (try split) <;> omega
theorem lw_eq {k : Nat} {s : Int} (h : k ≤ 6) (h1 : k = 0 ∨ tp (k - 1) < s) (h2 : k = 6 ∨ s ≤ tp k) : lw s = k := by
  have : k = 0 ∨ k = 1 ∨ k = 2 ∨ k = 3 ∨ k = 4 ∨ k = 5 ∨ k = 6 := by omega
  rcases this with rfl | rfl | rfl | rfl | rfl | rfl | rfl
  all_goals
    simp only [tp] at h1 h2
    unfold lw
    simp at h1 h2
    first
      | (rw [if_pos (by omega)]; done)
      | (rw [if_neg (by omega), if_pos (by omega)]; done)
      | (rw [if_neg (by omega), if_neg (by omega), if_pos (by omega)]; done)
      | (rw [if_neg (by omega), if_neg (by omega), if_neg (by omega), if_pos (by omega)]; done)
      | (rw [if_neg (by omega), if_neg (by omega), if_neg (by omega), if_neg (by omega), if_pos (by omega)]; done)
      | (rw [if_neg (by omega), if_neg (by omega), if_neg (by omega), if_neg (by omega), if_neg (by omega), if_pos (by omega)]; done)
      | (rw [if_neg (by omega), if_neg (by omega), if_neg (by omega), if_neg (by omega), if_neg (by omega), if_neg (by omega)]; done)
theorem lw_lt (s : Int) : lw s < 7 := by
  unfold lw
  split <;> (try split) <;> (try split) <;> (try split) <;> (try split) <;> (try split) <;> omega
theorem List_ok (s : Int) : AOKn Try.prog F.tags_List [.int .i64 s] fun y => y = .tup [.int .i64 (lsV s), .bool (lsB s)] := by
  refine AOKn.by_steps mixed fc_tags_List_ok (by simp [fc_tags_List]) ?_
  by_cases h4 : 4 ≤ s
  · rw [lsV, lsB, if_pos h4, decide_eq_true h4]
    repeat' (first
      | ((conv => whnf) <;> (first
      | (with_reducible refine and_same ?_)
      | ((with_reducible apply Br.no) ; (focus omega))
      ))
      )
    all_goals (conv => whnf)
    all_goals (try dsimp only)
    refine loop_at (α := Nat) (fun a => [(4, .int .i64 a), (5, .int .i64 (tp a))]) (fun _ => []) (fun a => a ≤ 6 ∧ (a = 0 ∨ tp (a - 1) < s)) (fun a => 6 - a) 0 ⟨by omega, .inl rfl⟩ rfl rfl ?_
    rintro k ⟨hk, hlo⟩
    have hb := tp_bd k
    by_cases hgo : k < 6 ∧ tp k < s
    · have ht := tp_succ hgo.1
      obtain ⟨g1, g2⟩ := hgo
      generalize htk : tp k = T at *
      repeat' (first
        | ((conv => whnf) <;> (first
        | (with_reducible refine and_same ?_)
        | ((with_reducible apply Br.yes) ; (focus omega))
        ))
        )
      all_goals (conv => whnf)
      all_goals (try dsimp only)
      refine ⟨k + 1, by rw [ht]; rfl, rfl, ⟨by omega, .inr (by rw [Nat.add_sub_cancel, htk]; exact g2)⟩, by omega⟩
    · have he := lw_eq hk hlo (by omega)
      rw [he]
      generalize tp k = T at *
      repeat' (first
        | ((with_reducible refine Side.intro ?_) <;> (first
        | (simp only [List.append_nil, List.nil_append, List.map_nil]; first | exact List.nodup_nil | exact nodup_bid1 _ | exact nodup_bid2 (by assumption))
        | ((first | refine fresh_tup ?_ | skip); (repeat (first | exact fresh_sp _ |  exact FreshA.sl _ _ FreshA_bs | exact FreshA.sl _ _ FreshA_is | exact FreshA.nils | exact FreshA.nilp | exact FreshA.int _ _ | exact FreshA.bool _ | exact FreshA.str _ | exact fresh_nil | refine fresh_cons ?_ ?_ | with_reducible refine fresh_aggR ?_ | with_reducible refine fresh_agg ?_ | with_reducible exact fresh_nilA | with_reducible refine fresh_consA ?_ ?_)); done)
        ))
        | ((conv => whnf) <;> (first
        | (with_reducible refine and_same ?_)
        | (with_reducible refine and_side ?_ ?_)
        | ((with_reducible apply Br.no) ; (focus omega))
        | (with_reducible refine Br.mk (fun _ => ?_) (fun _ => ?_))
        | (with_reducible refine NOut.lit ?_)
        ))
        )
      all_goals (conv => whnf)
      all_goals (try dsimp only)
      all_goals first
        | omega
        | exact ret_same rfl
  · rw [lsV, lsB, if_neg h4, decide_eq_false h4]
    repeat' (first
      | ((with_reducible refine Side.intro ?_) <;> (first
      | (simp only [List.append_nil, List.nil_append, List.map_nil]; first | exact List.nodup_nil | exact nodup_bid1 _ | exact nodup_bid2 (by assumption))
      | ((first | refine fresh_tup ?_ | skip); (repeat (first | exact fresh_sp _ |  exact FreshA.sl _ _ FreshA_bs | exact FreshA.sl _ _ FreshA_is | exact FreshA.nils | exact FreshA.nilp | exact FreshA.int _ _ | exact FreshA.bool _ | exact FreshA.str _ | exact fresh_nil | refine fresh_cons ?_ ?_ | with_reducible refine fresh_aggR ?_ | with_reducible refine fresh_agg ?_ | with_reducible exact fresh_nilA | with_reducible refine fresh_consA ?_ ?_)); done)
      ))
      | ((conv => whnf) <;> (first
      | (with_reducible refine and_same ?_)
      | (with_reducible refine and_side ?_ ?_)
      | ((with_reducible apply Br.yes) ; (focus omega))
      | (with_reducible refine NOut.lit ?_)
      ))
      )
    all_goals (conv => whnf)
    all_goals (try dsimp only)
    exact ret_same rfl
theorem List_call (s : Int) {σ : AH} {Q : AV → AH → Prop} (h : ∀ σ', Gr σ σ' none → Q (.tup [.int .i64 (lsV s), .bool (lsB s)]) σ') : CallS Try.prog F.tags_List [.int .i64 s] σ Q :=
  call_two (List_ok s) (.cons (.int _ _ _) .nil) rfl rfl h
def tpL : List Int := [4, 8, 16, 32, 64, 128]
theorem tpL_get {k : Nat} (h : k < 6) : tpL[k]? = some (tp k) := by
  have : k = 0 ∨ k = 1 ∨ k = 2 ∨ k = 3 ∨ k = 4 ∨ k = 5 := by omega
  rcases this with rfl | rfl | rfl | rfl | rfl | rfl <;> rfl
theorem RList_ok (s : Int) : AOKn Try.prog F.joistref11_List [.int .i64 s] fun y => y = .tup [.int .i64 (lsV s), .bool (lsB s)] := by
  refine AOKn.by_steps mixed fc_joistref11_List_ok (by simp [fc_joistref11_List]) ?_
  by_cases h4 : 4 ≤ s
  · rw [lsV, lsB, if_pos h4, decide_eq_true h4]
    repeat' (first
      | ((with_reducible refine Side.intro ?_) <;> (first
      | omega
      | exact Nat.le_of_ble_eq_true rfl
      | exact rfl
      ))
      | ((conv => whnf) <;> (first
      | (with_reducible refine and_same ?_)
      | (with_reducible refine and_side ?_ ?_)
      | ((with_reducible apply Br.no) ; (focus omega))
      ))
      )
    all_goals (conv => whnf)
    all_goals (try dsimp only)
    generalize hH : (newB [] 1 _ _ : AH) = H
    have hb : H[0]? = some { sz := 1, els := is tpL, gen := 0, wr := true, pure := true } := by rw [← hH]; rfl
    clear hH
    have htl : (is tpL).length = 6 := rfl
    refine loop_at (α := Nat) (fun a => [(5, .int .i64 a)]) (fun _ => H) (fun a => a ≤ 6 ∧ (a = 0 ∨ tp (a - 1) < s)) (fun a => 6 - a) 0 ⟨by omega, .inl rfl⟩ rfl rfl ?_
    rintro k ⟨hk, hlo⟩
    have hbd := tp_bd k
    by_cases h6 : k < 6
    · have hg := tpL_get h6
      have hg2 : tpL[0 + (k : Int).toNat]? = some (tp k) := by rw [Nat.zero_add, Int.toNat_natCast]; exact hg
      have he := lw_eq hk hlo
      generalize htk : tp k = T at *
      generalize tpL = L at *
      by_cases hs : s ≤ T
      · rw [he (.inr hs)]
        repeat' (first
          | ((with_reducible refine Side.intro ?_) <;> (first
          | omega
          | (simp only [List.append_nil, List.nil_append, List.map_nil]; first | exact List.nodup_nil | exact nodup_bid1 _ | exact nodup_bid2 (by assumption))
          | ((first | refine fresh_tup ?_ | skip); (repeat (first | exact fresh_sp _ |  exact FreshA.sl _ _ FreshA_bs | exact FreshA.sl _ _ FreshA_is | exact FreshA.nils | exact FreshA.nilp | exact FreshA.int _ _ | exact FreshA.bool _ | exact FreshA.str _ | exact fresh_nil | refine fresh_cons ?_ ?_ | with_reducible refine fresh_aggR ?_ | with_reducible refine fresh_agg ?_ | with_reducible exact fresh_nilA | with_reducible refine fresh_consA ?_ ?_)); done)
          ))
          | ((conv => whnf) <;> (first
          | (with_reducible refine and_same ?_)
          | (with_reducible refine and_side ?_ ?_)
          | ((with_reducible apply Br.yes) ; (focus omega))
          | ((with_reducible apply blkAt_intro) ; (focus (first
          | ((repeat (first
          | assumption
          )); done)
          )) ; (focus (first | rfl | assumption | omega)) ; (try dsimp only))
          | ((with_reducible apply nthR_is1) ; (focus assumption))
          | (with_reducible refine IaW.of ?_)
          | (with_reducible refine NOut.lit ?_)
          | (with_reducible refine lenR_rsl ?_)
          ))
          )
        all_goals (conv => whnf)
        all_goals (try dsimp only)
        exact ret_same rfl
      · repeat' (first
          | ((with_reducible refine Side.intro ?_) <;> (first
          | omega
          ))
          | ((conv => whnf) <;> (first
          | (with_reducible refine and_same ?_)
          | (with_reducible refine and_side ?_ ?_)
          | ((with_reducible apply Br.yes) ; (focus omega))
          | ((with_reducible apply Br.no) ; (focus omega))
          | ((with_reducible apply blkAt_intro) ; (focus (first
          | ((repeat (first
          | assumption
          )); done)
          )) ; (focus (first | rfl | assumption | omega)) ; (try dsimp only))
          | ((with_reducible apply nthR_is1) ; (focus assumption))
          | (with_reducible refine IaW.of ?_)
          | (with_reducible refine lenR_rsl ?_)
          ))
          )
        all_goals (conv => whnf)
        all_goals (try dsimp only)
        refine ⟨k + 1, rfl, rfl, ⟨by omega, .inr (by rw [Nat.add_sub_cancel, htk]; omega)⟩, by omega⟩
    · have h66 : k = 6 := by omega
      subst h66
      rw [lw_eq hk hlo (.inl rfl)]
      repeat' (first
        | ((with_reducible refine Side.intro ?_) <;> (first
        | (simp only [List.append_nil, List.nil_append, List.map_nil]; first | exact List.nodup_nil | exact nodup_bid1 _ | exact nodup_bid2 (by assumption))
        | ((first | refine fresh_tup ?_ | skip); (repeat (first | exact fresh_sp _ |  exact FreshA.sl _ _ FreshA_bs | exact FreshA.sl _ _ FreshA_is | exact FreshA.nils | exact FreshA.nilp | exact FreshA.int _ _ | exact FreshA.bool _ | exact FreshA.str _ | exact fresh_nil | refine fresh_cons ?_ ?_ | with_reducible refine fresh_aggR ?_ | with_reducible refine fresh_agg ?_ | with_reducible exact fresh_nilA | with_reducible refine fresh_consA ?_ ?_)); done)
        ))
        | ((conv => whnf) <;> (first
        | (with_reducible refine and_same ?_)
        | (with_reducible refine and_side ?_ ?_)
        | ((with_reducible apply Br.no) ; (focus omega))
        | ((with_reducible apply blkAt_intro) ; (focus (first
        | ((repeat (first
        | assumption
        )); done)
        )) ; (focus (first | rfl | assumption | omega)) ; (try dsimp only))
        | (with_reducible refine NOut.lit ?_)
        | (with_reducible refine lenR_rsl ?_)
        ))
        )
      all_goals (conv => whnf)
      all_goals (try dsimp only)
      exact ret_same rfl
  · rw [lsV, lsB, if_neg h4, decide_eq_false h4]
    repeat' (first
      | ((with_reducible refine Side.intro ?_) <;> (first
      | (simp only [List.append_nil, List.nil_append, List.map_nil]; first | exact List.nodup_nil | exact nodup_bid1 _ | exact nodup_bid2 (by assumption))
      | ((first | refine fresh_tup ?_ | skip); (repeat (first | exact fresh_sp _ |  exact FreshA.sl _ _ FreshA_bs | exact FreshA.sl _ _ FreshA_is | exact FreshA.nils | exact FreshA.nilp | exact FreshA.int _ _ | exact FreshA.bool _ | exact FreshA.str _ | exact fresh_nil | refine fresh_cons ?_ ?_ | with_reducible refine fresh_aggR ?_ | with_reducible refine fresh_agg ?_ | with_reducible exact fresh_nilA | with_reducible refine fresh_consA ?_ ?_)); done)
      ))
      | ((conv => whnf) <;> (first
      | (with_reducible refine and_same ?_)
      | (with_reducible refine and_side ?_ ?_)
      | ((with_reducible apply Br.yes) ; (focus omega))
      | (with_reducible refine NOut.lit ?_)
      ))
      )
    all_goals (conv => whnf)
    all_goals (try dsimp only)
    exact ret_same rfl
theorem RList_call (s : Int) {σ : AH} {Q : AV → AH → Prop} (h : ∀ σ', Gr σ σ' none → Q (.tup [.int .i64 (lsV s), .bool (lsB s)]) σ') : CallS Try.prog F.joistref11_List [.int .i64 s] σ Q :=
  call_two (RList_ok s) (.cons (.int _ _ _) .nil) rfl rfl h
/-! ### Spans of blocks -/
def spo (U : List (Int × Int × Int)) : List (Int × Int) := U.map fun u => (u.1, u.2.1)
theorem spo_length (U : List (Int × Int × Int)) : (spo U).length = U.length := by simp [spo]
theorem spo_take (U : List (Int × Int × Int)) (i : Nat) {u : Int × Int × Int} (h : U[i]? = some u) : spo (U.take (i + 1)) = spo (U.take i) ++ [(u.1, u.2.1)] := by
  rw [List.take_add_one, h]; simp [spo]
theorem spansOf_ok (U : List (Int × Int × Int)) (hU : U.length ≤ 4611686) : AOKn Try.prog F.tags_spansOf [.sl 3 (bk U) false] fun y => y = .sl 2 (sp (spo U)) true := by
  have hn := bk_length U
  refine AOKn.by_steps mixed fc_tags_spansOf_ok (by simp [fc_tags_spansOf]) ?_
  repeat' (first
    | ((conv => whnf) <;> (first
    | (with_reducible refine lenR_sl ?_)
    ))
    )
  all_goals (conv => whnf)
  all_goals (try dsimp only)
  refine loop_at (α := Nat × AH × AV) (fun a => [(3, a.2.2), (8, .int .i64 a.1)]) (fun a => a.2.1) (fun a => a.1 ≤ U.length ∧ Own a.2.1 2 a.2.2 (sp (spo (U.take a.1)))) (fun a => U.length - a.1) (0, [], .nils) ⟨Nat.zero_le _, Own.nil _ _⟩ rfl rfl ?_
  rintro ⟨i, σ, ob⟩ ⟨hi, ho⟩
  dsimp only at hi ho ⊢
  by_cases hlt : i < U.length
  · obtain ⟨u, hu, hu'⟩ := getN hlt
    have et := spo_take U i hu'
    have hsl := sp_length (spo (U.take i))
    have hsl2 := spo_length (U.take i)
    have htl : (U.take i).length ≤ i := by rw [List.length_take]; omega
    repeat' (first
      | ((with_reducible refine Side.intro ?_) <;> (first
      | omega
      | exact Nat.le_of_ble_eq_true rfl
      | exact rfl
      ))
      | ((conv => whnf) <;> (first
      | (with_reducible refine and_same ?_)
      | (with_reducible refine and_side ?_ ?_)
      | ((with_reducible apply Br.yes) ; (focus omega))
      | ((with_reducible apply blkAt_intro) ; (focus (first
      | ((repeat (first
      | exact get_new
      | exact get_set get_new
      )); done)
      )) ; (focus (first | rfl | assumption | omega)) ; (try dsimp only))
      | ((with_reducible apply nthR_bk) ; (focus assumption))
      | (with_reducible refine ia_sl ?_ ?_)
      | (with_reducible refine AppC.frz ?_)
      | (with_reducible refine rowsR_rsl ?_)
      ))
      )
    all_goals (conv => whnf)
    all_goals (try dsimp only)
    refine appendR_own (rows := sp (spo (U.take i))) (ho.keepN (by (repeat (first
          | exact Gr.refl _ _
          | refine Gr.setNew ?_ (by first | exact Nat.le_refl _ | (simp only [newB_length, List.length_set, List.length_append, List.length_singleton]; omega) | omega) _
          | refine Gr.addN ?_ _
          )))) (by simp only [List.length_take, List.length_drop, List.length_set, List.length_replicate]; omega) ?_
    intro ob' σ' ho' hg' hb'
    repeat' (first
      | ((conv => whnf) <;> (first
      | (with_reducible refine and_same ?_)
      | ((with_reducible apply Br.yes) ; (focus omega))
      ))
      )
    all_goals (conv => whnf)
    all_goals (try dsimp only)
    refine ⟨(i + 1, σ', ob'), rfl, rfl, ⟨by dsimp only; omega, ?_⟩, by dsimp only; omega⟩
    dsimp only
    rw [et, sp_append]
    exact ho'
  · have hil : i = U.length := by omega
    subst hil
    rw [List.take_length] at ho
    repeat' (first
      | ((conv => whnf) <;> (first
      | (with_reducible refine and_same ?_)
      | ((with_reducible apply Br.no) ; (focus omega))
      ))
      )
    all_goals (conv => whnf)
    all_goals (try dsimp only)
    exact outNR_own ho (fresh_sp _) rfl
theorem spansOf_call (U : List (Int × Int × Int)) (hU : U.length ≤ 4611686) {σ : AH} {x : AV} (hx : Looks σ x (.sl 3 (Go.Proofs.Ytjbfdhnfdehdeaa.bk U) false)) {Q : AV → AH → Prop} (h : ∀ σ' y, Gr σ σ' none → Own σ' 2 y (sp (spo U)) → New σ y → Q y σ') : CallS Try.prog F.tags_spansOf [x] σ Q :=
  call_sl (spansOf_ok U hU) (.cons hx .nil) h
theorem spans_ok (U : List (Int × Int × Int)) (hU : U.length ≤ 4611686) : AOKn Try.prog F.joistref11_spans [.sl 3 (bk U) false] fun y => y = .sl 2 (sp (spo U)) true := by
  have hn := bk_length U
  refine AOKn.by_steps mixed fc_joistref11_spans_ok (by simp [fc_joistref11_spans]) ?_
  skip
  all_goals (conv => whnf)
  all_goals (try dsimp only)
  refine loop_at (α := Nat × AH × AV) (fun a => [(3, a.2.2), (4, .int .i64 a.1)]) (fun a => a.2.1) (fun a => a.1 ≤ U.length ∧ Own a.2.1 2 a.2.2 (sp (spo (U.take a.1)))) (fun a => U.length - a.1) (0, [], .nils) ⟨Nat.zero_le _, Own.nil _ _⟩ rfl rfl ?_
  rintro ⟨i, σ, ob⟩ ⟨hi, ho⟩
  dsimp only at hi ho ⊢
  by_cases hlt : i < U.length
  · obtain ⟨u, hu, hu'⟩ := getN hlt
    have et := spo_take U i hu'
    have hsl := sp_length (spo (U.take i))
    have hsl2 := spo_length (U.take i)
    have htl : (U.take i).length ≤ i := by rw [List.length_take]; omega
    repeat' (first
      | ((with_reducible refine Side.intro ?_) <;> (first
      | omega
      | exact Nat.le_of_ble_eq_true rfl
      | exact rfl
      ))
      | ((conv => whnf) <;> (first
      | (with_reducible refine and_same ?_)
      | (with_reducible refine and_side ?_ ?_)
      | ((with_reducible apply Br.yes) ; (focus omega))
      | ((with_reducible apply blkAt_intro) ; (focus (first
      | ((repeat (first
      | exact get_new
      )); done)
      )) ; (focus (first | rfl | assumption | omega)) ; (try dsimp only))
      | ((with_reducible apply nthR_bk) ; (focus assumption))
      | (with_reducible refine ia_sl ?_ ?_)
      | (with_reducible refine AppC.frz ?_)
      | (with_reducible refine lenR_sl ?_)
      | (with_reducible refine rowsR_rsl ?_)
      ))
      )
    all_goals (conv => whnf)
    all_goals (try dsimp only)
    refine appendR_own (rows := sp (spo (U.take i))) (ho.keepN (by (repeat (first
          | exact Gr.refl _ _
          | refine Gr.addN ?_ _
          )))) (by simp only [List.length_take, List.length_drop, List.length_set, List.length_replicate]; omega) ?_
    intro ob' σ' ho' hg' hb'
    repeat' (first
      | ((conv => whnf) <;> (first
      | (with_reducible refine and_same ?_)
      | ((with_reducible apply Br.yes) ; (focus omega))
      ))
      )
    all_goals (conv => whnf)
    all_goals (try dsimp only)
    refine ⟨(i + 1, σ', ob'), rfl, rfl, ⟨by dsimp only; omega, ?_⟩, by dsimp only; omega⟩
    dsimp only
    rw [et, sp_append]
    exact ho'
  · have hil : i = U.length := by omega
    subst hil
    rw [List.take_length] at ho
    repeat' (first
      | ((conv => whnf) <;> (first
      | (with_reducible refine and_same ?_)
      | ((with_reducible apply Br.no) ; (focus omega))
      | (with_reducible refine lenR_sl ?_)
      ))
      )
    all_goals (conv => whnf)
    all_goals (try dsimp only)
    exact outNR_own ho (fresh_sp _) rfl
theorem spans_call (U : List (Int × Int × Int)) (hU : U.length ≤ 4611686) {σ : AH} {x : AV} (hx : Looks σ x (.sl 3 (Go.Proofs.Ytjbfdhnfdehdeaa.bk U) false)) {Q : AV → AH → Prop} (h : ∀ σ' y, Gr σ σ' none → Own σ' 2 y (sp (spo U)) → New σ y → Q y σ') : CallS Try.prog F.joistref11_spans [x] σ Q :=
  call_sl (spans_ok U hU) (.cons hx .nil) h
end Go.Proofs.Ytjbfdhnfdehdeaa
