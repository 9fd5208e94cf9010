import Derived.Test.YtabdieanlhecoaaPcalls
namespace Go.Proofs.Ytabdieanlhecoaa
open Go Go.Proofs.Ytabdieanlhecoaa.V
set_option maxRecDepth 20000
attribute [local irreducible] CallS AOK AOKn ALoop Side Ref.ok
/-! ### Classes -/
def cw (c : Int) : Int := if c = 0 then 2 else if c = 1 then 3 else if c = 2 then 5 else if c = 3 then 7 else if c = 4 then 10 else if c = 5 then 15 else 0
def clOk (c : Int) : Bool := decide (0 ≤ c ∧ c < 6)
def clE (c : Int) : Int := if clOk c then 0 else 1
def cn (c : Int) : Int := if c = 0 then 14 else if c = 1 then 9 else if c = 2 then 5 else if c = 3 then 4 else if c = 4 then 2 else if c = 5 then 1 else 0
theorem cl_six {c : Int} (h : clOk c = true) : c = 0 ∨ c = 1 ∨ c = 2 ∨ c = 3 ∨ c = 4 ∨ c = 5 := by
  simp only [clOk, decide_eq_true_eq] at h; omega
theorem cl_no {c : Int} (h : clOk c = false) : cw c = 0 ∧ cn c = 0 := by
  simp only [clOk, decide_eq_false_iff_not] at h
  unfold cw cn
  constructor
  · repeat (rw [if_neg (by omega)])
  · repeat (rw [if_neg (by omega)])
theorem cn_bd (c : Int) : 0 ≤ cn c ∧ cn c ≤ 14 ∧ 0 ≤ cw c ∧ cw c ≤ 15 := by
  unfold cn cw
  by_cases h : clOk c = true
  · rcases cl_six h with rfl | rfl | rfl | rfl | rfl | rfl <;> decide
  · have := cl_no (by simpa using h)
    unfold cn cw at this
    rw [this.1, this.2]; decide
theorem cn_cw (c : Int) : cn c * cw c ≤ 28 := by
  by_cases h : clOk c = true
  · rcases cl_six h with rfl | rfl | rfl | rfl | rfl | rfl <;> decide
  · rw [(cl_no (by simpa using h)).1]; omega
def clL : List AV := [.int .i64 2, .int .i64 3, .int .i64 5, .int .i64 7, .int .i64 10, .int .i64 15]
theorem words_ok : AOKn Try.prog F.class_words [] fun y => y = .agg clL := by
  refine AOKn.by_steps mixed fc_class_words_ok (by simp [fc_class_words]) ?_
  repeat' (first
    | ((with_reducible refine Side.intro ?_) <;> (first
    | exact Nat.le_of_ble_eq_true rfl
    | (simp only [List.append_nil, List.nil_append, List.map_nil]; first | exact List.nodup_nil | exact nodup_bid1 _ | exact nodup_bid2 (by assumption))
    | ((first | refine fresh_tup ?_ | skip); (repeat (first |  exact FreshA.sl _ _ FreshA_bs | exact FreshA.sl _ _ FreshA_is | exact FreshA.nils | exact FreshA.nilp | exact FreshA.int _ _ | exact FreshA.bool _ | exact FreshA.str _ | exact fresh_nil | refine fresh_cons ?_ ?_ | with_reducible refine fresh_aggR ?_ | with_reducible refine fresh_agg ?_ | with_reducible exact fresh_nilA | with_reducible refine fresh_consA ?_ ?_)); done)
    | exact rfl
    ))
    | ((conv => whnf) <;> (first
    | (with_reducible refine and_same ?_)
    | (with_reducible refine and_side ?_ ?_)
    | ((with_reducible apply blkAt_intro) ; (focus (first
    | exact rfl
    )) ; (focus (first | rfl | assumption | omega)) ; (try dsimp only))
    | (with_reducible refine NOut.lit ?_)
    ))
    )
  all_goals (conv => whnf)
  all_goals (try dsimp only)
  all_goals exact ret_same rfl
theorem words_call {σ : AH} {Q : AV → AH → Prop} (h : ∀ σ', Gr σ σ' none → Q (.agg clL) σ') : CallS Try.prog F.class_words [] σ Q :=
  call_one words_ok .nil rfl h
theorem Words_ok (c : Int) : AOKn Try.prog F.class_Words [.int .i64 c] fun y => y = .tup [.int .i64 (cw c), .int .i64 (clE c)] := by
  refine AOKn.by_steps mixed fc_class_Words_ok (by simp [fc_class_Words]) ?_
  cases ho : clOk c
  · have h1 := cl_no ho
    rw [h1.1, show clE c = 1 from by rw [clE, ho]; rfl]
    simp only [clOk, decide_eq_false_iff_not] at ho
    repeat' (first
      | ((with_reducible refine Side.intro ?_) <;> (first
      | (simp only [List.append_nil, List.nil_append, List.map_nil]; first | exact List.nodup_nil | exact nodup_bid1 _ | exact nodup_bid2 (by assumption))
      | ((first | refine fresh_tup ?_ | skip); (repeat (first |  exact FreshA.sl _ _ FreshA_bs | exact FreshA.sl _ _ FreshA_is | exact FreshA.nils | exact FreshA.nilp | exact FreshA.int _ _ | exact FreshA.bool _ | exact FreshA.str _ | exact fresh_nil | refine fresh_cons ?_ ?_ | with_reducible refine fresh_aggR ?_ | with_reducible refine fresh_agg ?_ | with_reducible exact fresh_nilA | with_reducible refine fresh_consA ?_ ?_)); done)
      ))
      | ((conv => whnf) <;> (first
      | (with_reducible refine and_same ?_)
      | (with_reducible refine and_side ?_ ?_)
      | ((with_reducible apply Br.yes) ; (focus omega))
      | (with_reducible refine Br.mk (fun _ => ?_) (fun _ => ?_))
      | (with_reducible refine NOut.lit ?_)
      ))
      )
    all_goals (conv => whnf)
    all_goals (try dsimp only)
    all_goals first
      | omega
      | exact ret_same rfl
  · have h6 := cl_six ho
    rw [show clE c = 0 from by rw [clE, ho]; rfl]
    repeat' (first
      | ((conv => whnf) <;> (first
      | (with_reducible refine and_same ?_)
      | ((with_reducible apply Br.no) ; (focus omega))
      ))
      )
    all_goals (conv => whnf)
    all_goals (try dsimp only)
    refine words_call fun H1 hg1 => ?_
    rcases h6 with rfl | rfl | rfl | rfl | rfl | rfl
    all_goals
      repeat' (first
        | ((with_reducible refine Side.intro ?_) <;> (first
        | omega
        | (simp only [List.append_nil, List.nil_append, List.map_nil]; first | exact List.nodup_nil | exact nodup_bid1 _ | exact nodup_bid2 (by assumption))
        | ((first | refine fresh_tup ?_ | skip); (repeat (first |  exact FreshA.sl _ _ FreshA_bs | exact FreshA.sl _ _ FreshA_is | exact FreshA.nils | exact FreshA.nilp | exact FreshA.int _ _ | exact FreshA.bool _ | exact FreshA.str _ | exact fresh_nil | refine fresh_cons ?_ ?_ | with_reducible refine fresh_aggR ?_ | with_reducible refine fresh_agg ?_ | with_reducible exact fresh_nilA | with_reducible refine fresh_consA ?_ ?_)); done)
        ))
        | ((conv => whnf) <;> (first
        | (with_reducible refine and_side ?_ ?_)
        | (with_reducible refine NOut.lit ?_)
        ))
        )
      all_goals (conv => whnf)
      all_goals (try dsimp only)
      exact ret_same rfl
theorem Words_call (c : Int) {σ : AH} {Q : AV → AH → Prop} (h : ∀ σ', Gr σ σ' none → Q (.tup [.int .i64 (cw c), .int .i64 (clE c)]) σ') : CallS Try.prog F.class_Words [.int .i64 c] σ Q :=
  call_two (Words_ok c) (.cons (.int _ _ _) .nil) rfl rfl h
theorem Cells_ok (c : Int) : AOKn Try.prog F.class_Cells [.int .i64 c] fun y => y = .tup [.int .i64 (cn c), .int .i64 (clE c)] := by
  refine AOKn.by_steps mixed fc_class_Cells_ok (by simp [fc_class_Cells]) ?_
  skip
  all_goals (conv => whnf)
  all_goals (try dsimp only)
  refine Words_call c fun H1 hg1 => ?_
  cases ho : clOk c
  · have h1 := cl_no ho
    rw [h1.1, h1.2, show clE c = 1 from by rw [clE, ho]; rfl]
    repeat' (first
      | ((with_reducible refine Side.intro ?_) <;> (first
      | (simp only [List.append_nil, List.nil_append, List.map_nil]; first | exact List.nodup_nil | exact nodup_bid1 _ | exact nodup_bid2 (by assumption))
      | ((first | refine fresh_tup ?_ | skip); (repeat (first |  exact FreshA.sl _ _ FreshA_bs | exact FreshA.sl _ _ FreshA_is | exact FreshA.nils | exact FreshA.nilp | exact FreshA.int _ _ | exact FreshA.bool _ | exact FreshA.str _ | exact fresh_nil | refine fresh_cons ?_ ?_ | with_reducible refine fresh_aggR ?_ | with_reducible refine fresh_agg ?_ | with_reducible exact fresh_nilA | with_reducible refine fresh_consA ?_ ?_)); done)
      ))
      | ((conv => whnf) <;> (first
      | (with_reducible refine and_same ?_)
      | (with_reducible refine and_side ?_ ?_)
      | ((with_reducible apply Br.yes) ; (focus omega))
      | (with_reducible refine NOut.lit ?_)
      ))
      )
    all_goals (conv => whnf)
    all_goals (try dsimp only)
    exact ret_same rfl
  · have h6 := cl_six ho
    rw [show clE c = 0 from by rw [clE, ho]; rfl]
    rcases h6 with rfl | rfl | rfl | rfl | rfl | rfl
    · rw [show cw 0 = 2 from rfl, show cn 0 = 14 from rfl]
      repeat' (first
        | ((with_reducible refine Side.intro ?_) <;> (first
        | omega
        | (simp only [List.append_nil, List.nil_append, List.map_nil]; first | exact List.nodup_nil | exact nodup_bid1 _ | exact nodup_bid2 (by assumption))
        | ((first | refine fresh_tup ?_ | skip); (repeat (first |  exact FreshA.sl _ _ FreshA_bs | exact FreshA.sl _ _ FreshA_is | exact FreshA.nils | exact FreshA.nilp | exact FreshA.int _ _ | exact FreshA.bool _ | exact FreshA.str _ | exact fresh_nil | refine fresh_cons ?_ ?_ | with_reducible refine fresh_aggR ?_ | with_reducible refine fresh_agg ?_ | with_reducible exact fresh_nilA | with_reducible refine fresh_consA ?_ ?_)); done)
        ))
        | ((conv => whnf) <;> (first
        | (with_reducible refine and_same ?_)
        | (with_reducible refine and_side ?_ ?_)
        | ((with_reducible apply Br.yes) ; (focus omega))
        | ((with_reducible apply Br.no) ; (focus omega))
        | (with_reducible refine NOut.lit ?_)
        ))
        )
      all_goals (conv => whnf)
      all_goals (try dsimp only)
      exact ret_same rfl
    · rw [show cw 1 = 3 from rfl, show cn 1 = 9 from rfl]
      repeat' (first
        | ((with_reducible refine Side.intro ?_) <;> (first
        | omega
        | (simp only [List.append_nil, List.nil_append, List.map_nil]; first | exact List.nodup_nil | exact nodup_bid1 _ | exact nodup_bid2 (by assumption))
        | ((first | refine fresh_tup ?_ | skip); (repeat (first |  exact FreshA.sl _ _ FreshA_bs | exact FreshA.sl _ _ FreshA_is | exact FreshA.nils | exact FreshA.nilp | exact FreshA.int _ _ | exact FreshA.bool _ | exact FreshA.str _ | exact fresh_nil | refine fresh_cons ?_ ?_ | with_reducible refine fresh_aggR ?_ | with_reducible refine fresh_agg ?_ | with_reducible exact fresh_nilA | with_reducible refine fresh_consA ?_ ?_)); done)
        ))
        | ((conv => whnf) <;> (first
        | (with_reducible refine and_same ?_)
        | (with_reducible refine and_side ?_ ?_)
        | ((with_reducible apply Br.yes) ; (focus omega))
        | ((with_reducible apply Br.no) ; (focus omega))
        | (with_reducible refine NOut.lit ?_)
        ))
        )
      all_goals (conv => whnf)
      all_goals (try dsimp only)
      exact ret_same rfl
    · rw [show cw 2 = 5 from rfl, show cn 2 = 5 from rfl]
      repeat' (first
        | ((with_reducible refine Side.intro ?_) <;> (first
        | omega
        | (simp only [List.append_nil, List.nil_append, List.map_nil]; first | exact List.nodup_nil | exact nodup_bid1 _ | exact nodup_bid2 (by assumption))
        | ((first | refine fresh_tup ?_ | skip); (repeat (first |  exact FreshA.sl _ _ FreshA_bs | exact FreshA.sl _ _ FreshA_is | exact FreshA.nils | exact FreshA.nilp | exact FreshA.int _ _ | exact FreshA.bool _ | exact FreshA.str _ | exact fresh_nil | refine fresh_cons ?_ ?_ | with_reducible refine fresh_aggR ?_ | with_reducible refine fresh_agg ?_ | with_reducible exact fresh_nilA | with_reducible refine fresh_consA ?_ ?_)); done)
        ))
        | ((conv => whnf) <;> (first
        | (with_reducible refine and_same ?_)
        | (with_reducible refine and_side ?_ ?_)
        | ((with_reducible apply Br.yes) ; (focus omega))
        | ((with_reducible apply Br.no) ; (focus omega))
        | (with_reducible refine NOut.lit ?_)
        ))
        )
      all_goals (conv => whnf)
      all_goals (try dsimp only)
      exact ret_same rfl
    · rw [show cw 3 = 7 from rfl, show cn 3 = 4 from rfl]
      repeat' (first
        | ((with_reducible refine Side.intro ?_) <;> (first
        | omega
        | (simp only [List.append_nil, List.nil_append, List.map_nil]; first | exact List.nodup_nil | exact nodup_bid1 _ | exact nodup_bid2 (by assumption))
        | ((first | refine fresh_tup ?_ | skip); (repeat (first |  exact FreshA.sl _ _ FreshA_bs | exact FreshA.sl _ _ FreshA_is | exact FreshA.nils | exact FreshA.nilp | exact FreshA.int _ _ | exact FreshA.bool _ | exact FreshA.str _ | exact fresh_nil | refine fresh_cons ?_ ?_ | with_reducible refine fresh_aggR ?_ | with_reducible refine fresh_agg ?_ | with_reducible exact fresh_nilA | with_reducible refine fresh_consA ?_ ?_)); done)
        ))
        | ((conv => whnf) <;> (first
        | (with_reducible refine and_same ?_)
        | (with_reducible refine and_side ?_ ?_)
        | ((with_reducible apply Br.yes) ; (focus omega))
        | ((with_reducible apply Br.no) ; (focus omega))
        | (with_reducible refine NOut.lit ?_)
        ))
        )
      all_goals (conv => whnf)
      all_goals (try dsimp only)
      exact ret_same rfl
    · rw [show cw 4 = 10 from rfl, show cn 4 = 2 from rfl]
      repeat' (first
        | ((with_reducible refine Side.intro ?_) <;> (first
        | omega
        | (simp only [List.append_nil, List.nil_append, List.map_nil]; first | exact List.nodup_nil | exact nodup_bid1 _ | exact nodup_bid2 (by assumption))
        | ((first | refine fresh_tup ?_ | skip); (repeat (first |  exact FreshA.sl _ _ FreshA_bs | exact FreshA.sl _ _ FreshA_is | exact FreshA.nils | exact FreshA.nilp | exact FreshA.int _ _ | exact FreshA.bool _ | exact FreshA.str _ | exact fresh_nil | refine fresh_cons ?_ ?_ | with_reducible refine fresh_aggR ?_ | with_reducible refine fresh_agg ?_ | with_reducible exact fresh_nilA | with_reducible refine fresh_consA ?_ ?_)); done)
        ))
        | ((conv => whnf) <;> (first
        | (with_reducible refine and_same ?_)
        | (with_reducible refine and_side ?_ ?_)
        | ((with_reducible apply Br.yes) ; (focus omega))
        | ((with_reducible apply Br.no) ; (focus omega))
        | (with_reducible refine NOut.lit ?_)
        ))
        )
      all_goals (conv => whnf)
      all_goals (try dsimp only)
      exact ret_same rfl
    · rw [show cw 5 = 15 from rfl, show cn 5 = 1 from rfl]
      repeat' (first
        | ((with_reducible refine Side.intro ?_) <;> (first
        | omega
        | (simp only [List.append_nil, List.nil_append, List.map_nil]; first | exact List.nodup_nil | exact nodup_bid1 _ | exact nodup_bid2 (by assumption))
        | ((first | refine fresh_tup ?_ | skip); (repeat (first |  exact FreshA.sl _ _ FreshA_bs | exact FreshA.sl _ _ FreshA_is | exact FreshA.nils | exact FreshA.nilp | exact FreshA.int _ _ | exact FreshA.bool _ | exact FreshA.str _ | exact fresh_nil | refine fresh_cons ?_ ?_ | with_reducible refine fresh_aggR ?_ | with_reducible refine fresh_agg ?_ | with_reducible exact fresh_nilA | with_reducible refine fresh_consA ?_ ?_)); done)
        ))
        | ((conv => whnf) <;> (first
        | (with_reducible refine and_same ?_)
        | (with_reducible refine and_side ?_ ?_)
        | ((with_reducible apply Br.yes) ; (focus omega))
        | ((with_reducible apply Br.no) ; (focus omega))
        | (with_reducible refine NOut.lit ?_)
        ))
        )
      all_goals (conv => whnf)
      all_goals (try dsimp only)
      exact ret_same rfl
theorem Cells_call (c : Int) {σ : AH} {Q : AV → AH → Prop} (h : ∀ σ', Gr σ σ' none → Q (.tup [.int .i64 (cn c), .int .i64 (clE c)]) σ') : CallS Try.prog F.class_Cells [.int .i64 c] σ Q :=
  call_two (Cells_ok c) (.cons (.int _ _ _) .nil) rfl rfl h
def ceOk (c k : Int) : Bool := clOk c && decide (0 ≤ k ∧ k < cn c)
def ceV (c k : Int) : Int := if ceOk c k then 4 + k * cw c else 0
def ceE (c k : Int) : Int := if ceOk c k then 0 else 1
theorem Cell_ok (c k : Int) : AOKn Try.prog F.class_Cell [.int .i64 c, .int .i64 k] fun y => y = .tup [.int .i64 (ceV c k), .int .i64 (ceE c k)] := by
  refine AOKn.by_steps mixed fc_class_Cell_ok (by simp [fc_class_Cell]) ?_
  skip
  all_goals (conv => whnf)
  all_goals (try dsimp only)
  refine Cells_call c fun H1 hg1 => ?_
  cases ho : clOk c
  · have h1 := cl_no ho
    have e : ceOk c k = false := by rw [ceOk, ho]; rfl
    rw [ceV, ceE, e, show clE c = 1 from by rw [clE, ho]; rfl]
    repeat' (first
      | ((with_reducible refine Side.intro ?_) <;> (first
      | (simp only [List.append_nil, List.nil_append, List.map_nil]; first | exact List.nodup_nil | exact nodup_bid1 _ | exact nodup_bid2 (by assumption))
      | ((first | refine fresh_tup ?_ | skip); (repeat (first |  exact FreshA.sl _ _ FreshA_bs | exact FreshA.sl _ _ FreshA_is | exact FreshA.nils | exact FreshA.nilp | exact FreshA.int _ _ | exact FreshA.bool _ | exact FreshA.str _ | exact fresh_nil | refine fresh_cons ?_ ?_ | with_reducible refine fresh_aggR ?_ | with_reducible refine fresh_agg ?_ | with_reducible exact fresh_nilA | with_reducible refine fresh_consA ?_ ?_)); done)
      ))
      | ((conv => whnf) <;> (first
      | (with_reducible refine and_same ?_)
      | (with_reducible refine and_side ?_ ?_)
      | ((with_reducible apply Br.yes) ; (focus omega))
      | (with_reducible refine NOut.lit ?_)
      ))
      )
    all_goals (conv => whnf)
    all_goals (try dsimp only)
    exact ret_same rfl
  · have h6 := cl_six ho
    have hb := cn_bd c
    rw [show clE c = 0 from by rw [clE, ho]; rfl]
    by_cases hk : 0 ≤ k ∧ k < cn c
    · have e : ceOk c k = true := by rw [ceOk, ho, decide_eq_true hk]; rfl
      rw [ceV, ceE, e]
      simp only [if_true]
      repeat' (first
        | ((conv => whnf) <;> (first
        | (with_reducible refine and_same ?_)
        | ((with_reducible apply Br.no) ; (focus omega))
        ))
        )
      all_goals (conv => whnf)
      all_goals (try dsimp only)
      refine words_call fun H2 hg2 => ?_
      rcases h6 with rfl | rfl | rfl | rfl | rfl | rfl
      · rw [show cw 0 = 2 from rfl]
        repeat' (first
          | ((with_reducible refine Side.intro ?_) <;> (first
          | omega
          | (simp only [List.append_nil, List.nil_append, List.map_nil]; first | exact List.nodup_nil | exact nodup_bid1 _ | exact nodup_bid2 (by assumption))
          | ((first | refine fresh_tup ?_ | skip); (repeat (first |  exact FreshA.sl _ _ FreshA_bs | exact FreshA.sl _ _ FreshA_is | exact FreshA.nils | exact FreshA.nilp | exact FreshA.int _ _ | exact FreshA.bool _ | exact FreshA.str _ | exact fresh_nil | refine fresh_cons ?_ ?_ | with_reducible refine fresh_aggR ?_ | with_reducible refine fresh_agg ?_ | with_reducible exact fresh_nilA | with_reducible refine fresh_consA ?_ ?_)); done)
          ))
          | ((conv => whnf) <;> (first
          | (with_reducible refine and_same ?_)
          | (with_reducible refine and_side ?_ ?_)
          | ((with_reducible apply Br.yes) ; (focus omega))
          | (with_reducible refine NOut.lit ?_)
          ))
          )
        all_goals (conv => whnf)
        all_goals (try dsimp only)
        exact ret_same rfl
      · rw [show cw 1 = 3 from rfl]
        repeat' (first
          | ((with_reducible refine Side.intro ?_) <;> (first
          | omega
          | (simp only [List.append_nil, List.nil_append, List.map_nil]; first | exact List.nodup_nil | exact nodup_bid1 _ | exact nodup_bid2 (by assumption))
          | ((first | refine fresh_tup ?_ | skip); (repeat (first |  exact FreshA.sl _ _ FreshA_bs | exact FreshA.sl _ _ FreshA_is | exact FreshA.nils | exact FreshA.nilp | exact FreshA.int _ _ | exact FreshA.bool _ | exact FreshA.str _ | exact fresh_nil | refine fresh_cons ?_ ?_ | with_reducible refine fresh_aggR ?_ | with_reducible refine fresh_agg ?_ | with_reducible exact fresh_nilA | with_reducible refine fresh_consA ?_ ?_)); done)
          ))
          | ((conv => whnf) <;> (first
          | (with_reducible refine and_same ?_)
          | (with_reducible refine and_side ?_ ?_)
          | ((with_reducible apply Br.yes) ; (focus omega))
          | (with_reducible refine NOut.lit ?_)
          ))
          )
        all_goals (conv => whnf)
        all_goals (try dsimp only)
        exact ret_same rfl
      · rw [show cw 2 = 5 from rfl]
        repeat' (first
          | ((with_reducible refine Side.intro ?_) <;> (first
          | omega
          | (simp only [List.append_nil, List.nil_append, List.map_nil]; first | exact List.nodup_nil | exact nodup_bid1 _ | exact nodup_bid2 (by assumption))
          | ((first | refine fresh_tup ?_ | skip); (repeat (first |  exact FreshA.sl _ _ FreshA_bs | exact FreshA.sl _ _ FreshA_is | exact FreshA.nils | exact FreshA.nilp | exact FreshA.int _ _ | exact FreshA.bool _ | exact FreshA.str _ | exact fresh_nil | refine fresh_cons ?_ ?_ | with_reducible refine fresh_aggR ?_ | with_reducible refine fresh_agg ?_ | with_reducible exact fresh_nilA | with_reducible refine fresh_consA ?_ ?_)); done)
          ))
          | ((conv => whnf) <;> (first
          | (with_reducible refine and_same ?_)
          | (with_reducible refine and_side ?_ ?_)
          | ((with_reducible apply Br.yes) ; (focus omega))
          | (with_reducible refine NOut.lit ?_)
          ))
          )
        all_goals (conv => whnf)
        all_goals (try dsimp only)
        exact ret_same rfl
      · rw [show cw 3 = 7 from rfl]
        repeat' (first
          | ((with_reducible refine Side.intro ?_) <;> (first
          | omega
          | (simp only [List.append_nil, List.nil_append, List.map_nil]; first | exact List.nodup_nil | exact nodup_bid1 _ | exact nodup_bid2 (by assumption))
          | ((first | refine fresh_tup ?_ | skip); (repeat (first |  exact FreshA.sl _ _ FreshA_bs | exact FreshA.sl _ _ FreshA_is | exact FreshA.nils | exact FreshA.nilp | exact FreshA.int _ _ | exact FreshA.bool _ | exact FreshA.str _ | exact fresh_nil | refine fresh_cons ?_ ?_ | with_reducible refine fresh_aggR ?_ | with_reducible refine fresh_agg ?_ | with_reducible exact fresh_nilA | with_reducible refine fresh_consA ?_ ?_)); done)
          ))
          | ((conv => whnf) <;> (first
          | (with_reducible refine and_same ?_)
          | (with_reducible refine and_side ?_ ?_)
          | ((with_reducible apply Br.yes) ; (focus omega))
          | (with_reducible refine NOut.lit ?_)
          ))
          )
        all_goals (conv => whnf)
        all_goals (try dsimp only)
        exact ret_same rfl
      · rw [show cw 4 = 10 from rfl]
        repeat' (first
          | ((with_reducible refine Side.intro ?_) <;> (first
          | omega
          | (simp only [List.append_nil, List.nil_append, List.map_nil]; first | exact List.nodup_nil | exact nodup_bid1 _ | exact nodup_bid2 (by assumption))
          | ((first | refine fresh_tup ?_ | skip); (repeat (first |  exact FreshA.sl _ _ FreshA_bs | exact FreshA.sl _ _ FreshA_is | exact FreshA.nils | exact FreshA.nilp | exact FreshA.int _ _ | exact FreshA.bool _ | exact FreshA.str _ | exact fresh_nil | refine fresh_cons ?_ ?_ | with_reducible refine fresh_aggR ?_ | with_reducible refine fresh_agg ?_ | with_reducible exact fresh_nilA | with_reducible refine fresh_consA ?_ ?_)); done)
          ))
          | ((conv => whnf) <;> (first
          | (with_reducible refine and_same ?_)
          | (with_reducible refine and_side ?_ ?_)
          | ((with_reducible apply Br.yes) ; (focus omega))
          | (with_reducible refine NOut.lit ?_)
          ))
          )
        all_goals (conv => whnf)
        all_goals (try dsimp only)
        exact ret_same rfl
      · rw [show cw 5 = 15 from rfl]
        repeat' (first
          | ((with_reducible refine Side.intro ?_) <;> (first
          | omega
          | (simp only [List.append_nil, List.nil_append, List.map_nil]; first | exact List.nodup_nil | exact nodup_bid1 _ | exact nodup_bid2 (by assumption))
          | ((first | refine fresh_tup ?_ | skip); (repeat (first |  exact FreshA.sl _ _ FreshA_bs | exact FreshA.sl _ _ FreshA_is | exact FreshA.nils | exact FreshA.nilp | exact FreshA.int _ _ | exact FreshA.bool _ | exact FreshA.str _ | exact fresh_nil | refine fresh_cons ?_ ?_ | with_reducible refine fresh_aggR ?_ | with_reducible refine fresh_agg ?_ | with_reducible exact fresh_nilA | with_reducible refine fresh_consA ?_ ?_)); done)
          ))
          | ((conv => whnf) <;> (first
          | (with_reducible refine and_same ?_)
          | (with_reducible refine and_side ?_ ?_)
          | ((with_reducible apply Br.yes) ; (focus omega))
          | (with_reducible refine NOut.lit ?_)
          ))
          )
        all_goals (conv => whnf)
        all_goals (try dsimp only)
        exact ret_same rfl
    · have e : ceOk c k = false := by rw [ceOk, ho, decide_eq_false hk]; rfl
      rw [ceV, ceE, e]
      repeat' (first
        | ((with_reducible refine Side.intro ?_) <;> (first
        | (simp only [List.append_nil, List.nil_append, List.map_nil]; first | exact List.nodup_nil | exact nodup_bid1 _ | exact nodup_bid2 (by assumption))
        | ((first | refine fresh_tup ?_ | skip); (repeat (first |  exact FreshA.sl _ _ FreshA_bs | exact FreshA.sl _ _ FreshA_is | exact FreshA.nils | exact FreshA.nilp | exact FreshA.int _ _ | exact FreshA.bool _ | exact FreshA.str _ | exact fresh_nil | refine fresh_cons ?_ ?_ | with_reducible refine fresh_aggR ?_ | with_reducible refine fresh_agg ?_ | with_reducible exact fresh_nilA | with_reducible refine fresh_consA ?_ ?_)); done)
        ))
        | ((conv => whnf) <;> (first
        | (with_reducible refine and_same ?_)
        | (with_reducible refine and_side ?_ ?_)
        | ((with_reducible apply Br.yes) ; (focus omega))
        | ((with_reducible apply Br.no) ; (focus omega))
        | (with_reducible refine Br.mk (fun _ => ?_) (fun _ => ?_))
        | (with_reducible refine NOut.lit ?_)
        ))
        )
      all_goals (conv => whnf)
      all_goals (try dsimp only)
      all_goals first
        | omega
        | exact ret_same rfl
theorem Cell_call (c k : Int) {σ : AH} {Q : AV → AH → Prop} (h : ∀ σ', Gr σ σ' none → Q (.tup [.int .i64 (ceV c k), .int .i64 (ceE c k)]) σ') : CallS Try.prog F.class_Cell [.int .i64 c, .int .i64 k] σ Q :=
  call_two (Cell_ok c k) (.cons (.int _ _ _) (.cons (.int _ _ _) .nil)) rfl rfl h
/-! ### Bits of cells -/
def incr (n a : Int) : List Int → Bool
  | [] => true
  | k :: r => decide (a < k ∧ k < n) && incr n k r
def lst (a : Int) : List Int → Int
  | [] => a
  | k :: r => lst k r
def sumv : List Int → Nat
  | [] => 0
  | k :: r => 2 ^ k.toNat + sumv r
theorem incr_append (n : Int) : ∀ (l m : List Int) (a : Int), incr n a (l ++ m) = (incr n a l && incr n (lst a l) m)
  | [], m, a => by simp [incr, lst]
  | k :: r, m, a => by
    simp only [List.cons_append, incr, lst, incr_append n r m k, Bool.and_assoc]
theorem lst_append : ∀ (l : List Int) (k a : Int), lst a (l ++ [k]) = k
  | [], k, a => rfl
  | x :: r, k, a => by simp only [List.cons_append, lst, lst_append r k x]
theorem sumv_append : ∀ (l m : List Int), sumv (l ++ m) = sumv l + sumv m
  | [], m => by simp [sumv]
  | k :: r, m => by simp only [List.cons_append, sumv, sumv_append r m]; omega
def btOk (c : Int) (l : List Int) : Bool := clOk c && incr (cn c) (-1) l
def btV (c : Int) (l : List Int) : Int := if btOk c l then (sumv l : Nat) else 0
def btEr (c : Int) (l : List Int) : Int := if btOk c l then 0 else 1
theorem pow_le14 {k : Nat} (h : k < 14) : 2 ^ k ≤ 8192 := by
  have : 2 ^ k ≤ 2 ^ 13 := Nat.pow_le_pow_right (by omega) (by omega)
  have e : 2 ^ 13 = 8192 := by decide
  omega
theorem shl_bit {k : Nat} (h : k < 14) : IntKind.wrap .i64 (1 * 2 ^ min (k : Int).toNat IntKind.i64.bits) = ((2 ^ k : Nat) : Int) := by
  have e1 : min (k : Int).toNat IntKind.i64.bits = k := by
    show min (k : Int).toNat 64 = k
    omega
  have h2 := pow_le14 h
  rw [e1, Int.one_mul]
  have : ((2 : Int) ^ k) = ((2 ^ k : Nat) : Int) := by norm_cast
  rw [this, wrap_nat (by omega)]
theorem or_bit {b k : Nat} (hb : b < 2 ^ k) (h : k < 14) : IntKind.wrap .i64 (((BitVec.ofInt IntKind.i64.bits (b : Int) ||| BitVec.ofInt IntKind.i64.bits ((2 ^ k : Nat) : Int)).toNat : Nat) : Int) = ((b + 2 ^ k : Nat) : Int) := by
  have h2 := pow_le14 h
  show IntKind.wrap .i64 (((BitVec.ofInt 64 (b : Int) ||| BitVec.ofInt 64 ((2 ^ k : Nat) : Int)).toNat : Nat) : Int) = _
  rw [BitVec.toNat_or, bv_nat (by omega), bv_nat (by omega)]
  have := Nat.shiftLeft_add_eq_or_of_lt (i := k) (b := b) hb 1
  rw [Nat.shiftLeft_eq, Nat.one_mul] at this
  rw [Nat.or_comm, ← this, Nat.add_comm, wrap_nat (by omega)]
theorem Bits_ok (c : Int) (l : List Int) (hs : l.length ≤ 4611686018) : AOKn Try.prog F.slab_Bits [.int .i64 c, .sl 1 (is l) false] fun y => y = .tup [.int .i64 (btV c l), .int .i64 (btEr c l)] := by
  have hn := is_length l
  refine AOKn.by_steps mixed fc_slab_Bits_ok (by simp [fc_slab_Bits]) ?_
  skip
  all_goals (conv => whnf)
  all_goals (try dsimp only)
  refine Cells_call c fun H1 hg1 => ?_
  cases ho : clOk c
  · have e : btOk c l = false := by rw [btOk, ho]; rfl
    rw [btV, btEr, e, show clE c = 1 from by rw [clE, ho]; rfl]
    repeat' (first
      | ((with_reducible refine Side.intro ?_) <;> (first
      | (simp only [List.append_nil, List.nil_append, List.map_nil]; first | exact List.nodup_nil | exact nodup_bid1 _ | exact nodup_bid2 (by assumption))
      | ((first | refine fresh_tup ?_ | skip); (repeat (first |  exact FreshA.sl _ _ FreshA_bs | exact FreshA.sl _ _ FreshA_is | exact FreshA.nils | exact FreshA.nilp | exact FreshA.int _ _ | exact FreshA.bool _ | exact FreshA.str _ | exact fresh_nil | refine fresh_cons ?_ ?_ | with_reducible refine fresh_aggR ?_ | with_reducible refine fresh_agg ?_ | with_reducible exact fresh_nilA | with_reducible refine fresh_consA ?_ ?_)); done)
      ))
      | ((conv => whnf) <;> (first
      | (with_reducible refine and_same ?_)
      | (with_reducible refine and_side ?_ ?_)
      | ((with_reducible apply Br.yes) ; (focus omega))
      | (with_reducible refine NOut.lit ?_)
      ))
      )
    all_goals (conv => whnf)
    all_goals (try dsimp only)
    exact ret_same rfl
  · have hb := cn_bd c
    have eb : btOk c l = incr (cn c) (-1) l := by rw [btOk, ho, Bool.true_and]
    rw [show clE c = 0 from by rw [clE, ho]; rfl, btV, btEr, eb]
    generalize cn c = n at *
    repeat' (first
      | ((conv => whnf) <;> (first
      | (with_reducible refine and_same ?_)
      | ((with_reducible apply Br.no) ; (focus omega))
      | (with_reducible refine lenR_sl ?_)
      ))
      )
    all_goals (conv => whnf)
    all_goals (try dsimp only)
    refine loop_at (α := Nat) (fun i => [(8, .int .i64 (sumv (l.take i) : Nat)), (9, .int .i64 (lst (-1) (l.take i))), (22, .int .i64 i)]) (fun _ => H1) (fun i => i ≤ l.length ∧ incr n (-1) (l.take i) = true ∧ sumv (l.take i) < 2 ^ (lst (-1) (l.take i) + 1).toNat ∧ -1 ≤ lst (-1) (l.take i) ∧ lst (-1) (l.take i) < 14) (fun i => l.length - i) 0 ⟨by omega, rfl, by show 0 < 2 ^ ((-1 : Int) + 1).toNat; decide, by show (-1 : Int) ≤ -1; omega, by show (-1 : Int) < 14; omega⟩ rfl rfl ?_
    rintro i ⟨hi, c1, c2, c3, c4⟩
    by_cases hlt : i < l.length
    · obtain ⟨v, hv, hv'⟩ := getN hlt
      have et : l.take (i + 1) = l.take i ++ [v] := by rw [List.take_add_one, hv']; rfl
      have ei : incr n (-1) (l.take (i + 1)) = decide (lst (-1) (l.take i) < v ∧ v < n) := by
        rw [et, incr_append, c1, Bool.true_and, incr, incr, Bool.and_true]
      have ea : incr n (-1) l = (incr n (-1) (l.take (i + 1)) && incr n (lst (-1) (l.take (i + 1))) (l.drop (i + 1))) := by
        rw [← incr_append, List.take_append_drop]
      by_cases hok : lst (-1) (l.take i) < v ∧ v < n
      · obtain ⟨k, rfl⟩ : ∃ k : Nat, v = k := ⟨v.toNat, by omega⟩
        have hb2 : sumv (l.take i) < 2 ^ k := Nat.lt_of_lt_of_le c2 (Nat.pow_le_pow_right (by omega) (by omega))
        have s1 := shl_bit (k := k) (by omega)
        have s2 := or_bit hb2 (by omega)
        have s3 := pow_le14 (k := k) (by omega)
        have e1 : sumv (l.take (i + 1)) = sumv (l.take i) + 2 ^ k := by rw [et, sumv_append]; simp [sumv]
        have e2 : lst (-1) (l.take (i + 1)) = k := by rw [et, lst_append]
        repeat' (first
          | ((with_reducible refine Side.intro ?_) <;> (first
          | omega
          ))
          | ((conv => whnf) <;> (first
          | (with_reducible refine and_same ?_)
          | (with_reducible refine and_side ?_ ?_)
          | ((with_reducible apply Br.yes) ; (focus omega))
          | ((with_reducible apply Br.no) ; (focus omega))
          | ((with_reducible apply nthR_is1) ; (focus assumption))
          | (with_reducible refine ia_sl ?_ ?_)
          ))
          )
        all_goals (conv => whnf)
        all_goals (try dsimp only)
        rw [s1, s2]
        refine ⟨i + 1, by rw [e1, e2]; rfl, rfl, ⟨by omega, by rw [ei]; exact decide_eq_true hok, ?_, by omega, by omega⟩, by omega⟩
        rw [e1, e2, show ((k : Int) + 1).toNat = k + 1 from by omega, Nat.pow_succ]
        omega
      · rw [ea, ei, decide_eq_false hok]
        repeat' (first
          | ((with_reducible refine Side.intro ?_) <;> (first
          | omega
          | (simp only [List.append_nil, List.nil_append, List.map_nil]; first | exact List.nodup_nil | exact nodup_bid1 _ | exact nodup_bid2 (by assumption))
          | ((first | refine fresh_tup ?_ | skip); (repeat (first |  exact FreshA.sl _ _ FreshA_bs | exact FreshA.sl _ _ FreshA_is | exact FreshA.nils | exact FreshA.nilp | exact FreshA.int _ _ | exact FreshA.bool _ | exact FreshA.str _ | exact fresh_nil | refine fresh_cons ?_ ?_ | with_reducible refine fresh_aggR ?_ | with_reducible refine fresh_agg ?_ | with_reducible exact fresh_nilA | with_reducible refine fresh_consA ?_ ?_)); done)
          ))
          | ((conv => whnf) <;> (first
          | (with_reducible refine and_same ?_)
          | (with_reducible refine and_side ?_ ?_)
          | ((with_reducible apply Br.yes) ; (focus omega))
          | (with_reducible refine Br.mk (fun _ => ?_) (fun _ => ?_))
          | ((with_reducible apply nthR_is1) ; (focus assumption))
          | (with_reducible refine ia_sl ?_ ?_)
          | (with_reducible refine NOut.lit ?_)
          ))
          )
        all_goals (conv => whnf)
        all_goals (try dsimp only)
        all_goals first
          | omega
          | exact ret_same rfl
    · have hil : i = l.length := by omega
      subst hil
      rw [List.take_length] at c1
      rw [List.take_length, c1]
      repeat' (first
        | ((with_reducible refine Side.intro ?_) <;> (first
        | (simp only [List.append_nil, List.nil_append, List.map_nil]; first | exact List.nodup_nil | exact nodup_bid1 _ | exact nodup_bid2 (by assumption))
        | ((first | refine fresh_tup ?_ | skip); (repeat (first |  exact FreshA.sl _ _ FreshA_bs | exact FreshA.sl _ _ FreshA_is | exact FreshA.nils | exact FreshA.nilp | exact FreshA.int _ _ | exact FreshA.bool _ | exact FreshA.str _ | exact fresh_nil | refine fresh_cons ?_ ?_ | with_reducible refine fresh_aggR ?_ | with_reducible refine fresh_agg ?_ | with_reducible exact fresh_nilA | with_reducible refine fresh_consA ?_ ?_)); done)
        ))
        | ((conv => whnf) <;> (first
        | (with_reducible refine and_same ?_)
        | (with_reducible refine and_side ?_ ?_)
        | ((with_reducible apply Br.no) ; (focus omega))
        | (with_reducible refine NOut.lit ?_)
        ))
        )
      all_goals (conv => whnf)
      all_goals (try dsimp only)
      exact ret_same rfl
end Go.Proofs.Ytabdieanlhecoaa
