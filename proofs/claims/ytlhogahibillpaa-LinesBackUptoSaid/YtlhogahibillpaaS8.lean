import Derived.Test.YtlhogahibillpaaS7
namespace Go.Proofs.Ytlhogahibillpaa
open Go Go.Proofs.Ytlhogahibillpaa.V
set_option maxRecDepth 20000
attribute [local irreducible] CallS AOK AOKn ALoop Side Ref.ok
/-- Is the change at a place right? -/
def okAt (n : Int) (L : List (Int × List UInt8)) (j : Nat) : Bool :=
  match L[j]? with
  | none => true
  | some p => decide (0 ≤ p.1 ∧ p.1 < n ∧ p.2.length = 64) && (match j with | 0 => true | i + 1 => match L[i]? with | some q => decide (q.1 < p.1) | none => true)
def rightB (n : Int) (L : List (Int × List UInt8)) : Bool := (List.range L.length).all (okAt n L)
theorem rightB_true {n : Int} {L : List (Int × List UInt8)} (h : ∀ j, j < L.length → okAt n L j = true) : rightB n L = true := List.all_eq_true.2 fun j hj => h j (List.mem_range.1 hj)
theorem rightB_false {n : Int} {L : List (Int × List UInt8)} {j : Nat} (hj : j < L.length) (h : okAt n L j = false) : rightB n L = false := by
  cases e : rightB n L
  · rfl
  · rw [List.all_eq_true.1 e j (List.mem_range.2 hj)] at h; cases h
theorem lines_Right_ok (n : Int) (L : List (Int × List UInt8)) (hL : L.length ≤ 4611686018427) : AOKn Try.prog F.lines_Right [.int .i64 n, .sl 2 (chg false L) false] fun y => y = .bool (rightB n L) := by
  have hm := chg_length false L
  unfold AOKn
  refine AOK.by_steps mixed fc_lines_Right_ok (by simp [fc_lines_Right]) ?_
  repeat' (first
    | ((with_reducible refine Side.intro ?_) <;> (first | with_reducible rfl | omega | assumption | exact Nat.le_of_ble_eq_true rfl | (simp only [bs_length, List.length_append, List.length_cons, List.length_nil, List.length_take, List.length_drop, List.length_set, List.length_replicate]; omega) | exact .inl (by omega) | exact .inr (.inl ⟨rfl, by (simp only [bs_length, List.length_append, List.length_cons, List.length_nil, List.length_take, List.length_drop, List.length_set, List.length_replicate]; omega)⟩) | exact Ref.ok_refl _ _ | ((first | refine fresh_tup ?_ | skip); (repeat (first | exact FreshA.nils | exact FreshA.nilp | exact FreshA.int _ _ | exact FreshA.bool _ | exact FreshA.str _ | exact fresh_nil | refine fresh_cons ?_ ?_)); done) | exact rfl | (simp; done)))
    | ((conv => whnf) <;> (first
        | (with_reducible refine and_same ?_)
        | (with_reducible refine and_side ?_ ?_)
        | (with_reducible refine Br.yes (by omega) ?_)
        | (with_reducible refine Br.no (by omega) ?_)
        | (with_reducible refine Br.mk (fun _ => ?_) (fun _ => ?_))
        | (with_reducible refine Both.mk ?_ ?_)
        | ((with_reducible apply blkAt_intro) ; (focus (first | exact rfl | (repeat (first | assumption | exact get_new | exact get_set (by assumption) | exact get_set get_new | apply get_old | (apply get_set_ne; (focus (first | omega | (simp only [newB_length, List.length_set, List.length_append, List.length_singleton]; omega)))))); done)) ; (focus (first | rfl | assumption | omega)) ; (try dsimp only))
        | ((with_reducible apply appendR_lit) ; (focus (first | exact rfl | (repeat (first | assumption | exact get_new | exact get_set (by assumption) | exact get_set get_new | apply get_old | (apply get_set_ne; (focus (first | omega | (simp only [newB_length, List.length_set, List.length_append, List.length_singleton]; omega)))))); done)) ; (focus (first | rfl | assumption)) ; (focus rfl) ; (focus rfl) ; (focus rfl) ; (focus (first | exact Nat.zero_le _ | omega | (simp; done) | (simp; omega))) ; (try dsimp only))
        | (with_reducible refine appendR_nil ?_ ?_)
        | (with_reducible refine lenR_own (by assumption) ?_)
        | (with_reducible refine rowsR_own (by assumption) ?_)
        | (with_reducible refine lenR_sl ?_)
        | (with_reducible refine lenR_nils ?_)
        | (with_reducible refine lenR_rsl ?_)
        | (with_reducible refine rowsR_sl ?_)
        | (with_reducible refine rowsR_nils ?_)
        | (with_reducible refine rowsR_rsl ?_)
        | (with_reducible refine lenR_slx ?_)
        | (with_reducible refine rowsR_slx ?_)
        | (with_reducible refine appendR_slx ?_ ?_ ?_)
        | (with_reducible refine bytesR_intro (by first | rfl | (simp only [bs_take, bs_drop, bs_append]; rfl)) ?_)
        | (with_reducible refine nthR_bs (by first | omega | (simp only [List.length_append, List.length_cons, List.length_nil, List.length_take, List.length_drop, bs_length]; omega)) (fun _ _ => ?_))
        | (with_reducible intro _))))
  all_goals (conv => whnf)
  all_goals (try dsimp only)
  refine loop_by (α := Nat × AH) (fun a => [(0, .int .i64 n), (1, .sl 2 (chg false L) false), (7, .sl 2 (chg false L) false), (8, .int .i64 L.length), (9, .int .i64 a.1)]) (fun a => a.2)
      (fun a => a.1 ≤ L.length ∧ ∀ j, j < a.1 → okAt n L j = true) (fun a => L.length - a.1) ?_ (0, []) ⟨by omega, by simp⟩ (by rw [hm]; rfl) rfl
  rintro ⟨k, σ⟩ ⟨hk, hok⟩
  dsimp only at hk hok ⊢
  repeat' (first
    | ((with_reducible refine Side.intro ?_) <;> (first | with_reducible rfl | omega | assumption | exact Nat.le_of_ble_eq_true rfl | (simp only [bs_length, List.length_append, List.length_cons, List.length_nil, List.length_take, List.length_drop, List.length_set, List.length_replicate]; omega) | exact .inl (by omega) | exact .inr (.inl ⟨rfl, by (simp only [bs_length, List.length_append, List.length_cons, List.length_nil, List.length_take, List.length_drop, List.length_set, List.length_replicate]; omega)⟩) | exact Ref.ok_refl _ _ | ((first | refine fresh_tup ?_ | skip); (repeat (first | exact FreshA.nils | exact FreshA.nilp | exact FreshA.int _ _ | exact FreshA.bool _ | exact FreshA.str _ | exact fresh_nil | refine fresh_cons ?_ ?_)); done) | exact rfl | (simp; done)))
    | ((conv => whnf) <;> (first
        | (with_reducible refine and_same ?_)
        | (with_reducible refine and_side ?_ ?_)
        | (with_reducible refine Br.yes (by omega) ?_)
        | (with_reducible refine Br.no (by omega) ?_)
        | (with_reducible refine Br.mk (fun _ => ?_) (fun _ => ?_))
        | (with_reducible refine Both.mk ?_ ?_)
        | ((with_reducible apply blkAt_intro) ; (focus (first | exact rfl | (repeat (first | assumption | exact get_new | exact get_set (by assumption) | exact get_set get_new | apply get_old | (apply get_set_ne; (focus (first | omega | (simp only [newB_length, List.length_set, List.length_append, List.length_singleton]; omega)))))); done)) ; (focus (first | rfl | assumption | omega)) ; (try dsimp only))
        | ((with_reducible apply appendR_lit) ; (focus (first | exact rfl | (repeat (first | assumption | exact get_new | exact get_set (by assumption) | exact get_set get_new | apply get_old | (apply get_set_ne; (focus (first | omega | (simp only [newB_length, List.length_set, List.length_append, List.length_singleton]; omega)))))); done)) ; (focus (first | rfl | assumption)) ; (focus rfl) ; (focus rfl) ; (focus rfl) ; (focus (first | exact Nat.zero_le _ | omega | (simp; done) | (simp; omega))) ; (try dsimp only))
        | (with_reducible refine appendR_nil ?_ ?_)
        | (with_reducible refine lenR_own (by assumption) ?_)
        | (with_reducible refine rowsR_own (by assumption) ?_)
        | (with_reducible refine lenR_sl ?_)
        | (with_reducible refine lenR_nils ?_)
        | (with_reducible refine lenR_rsl ?_)
        | (with_reducible refine rowsR_sl ?_)
        | (with_reducible refine rowsR_nils ?_)
        | (with_reducible refine rowsR_rsl ?_)
        | (with_reducible refine lenR_slx ?_)
        | (with_reducible refine rowsR_slx ?_)
        | (with_reducible refine appendR_slx ?_ ?_ ?_)
        | (with_reducible refine bytesR_intro (by first | rfl | (simp only [bs_take, bs_drop, bs_append]; rfl)) ?_)
        | (with_reducible refine nthR_bs (by first | omega | (simp only [List.length_append, List.length_cons, List.length_nil, List.length_take, List.length_drop, bs_length]; omega)) (fun _ _ => ?_))
        | (with_reducible intro _))))
  all_goals (conv => whnf)
  all_goals (try dsimp only)
  · refine nthR_chg (by omega) fun p hp => ?_
    have hpk : L[k]? = some p := by simpa using hp
    repeat' (first
      | ((with_reducible refine Side.intro ?_) <;> (first | with_reducible rfl | omega | assumption | exact Nat.le_of_ble_eq_true rfl | (simp only [bs_length, List.length_append, List.length_cons, List.length_nil, List.length_take, List.length_drop, List.length_set, List.length_replicate]; omega) | exact .inl (by omega) | exact .inr (.inl ⟨rfl, by (simp only [bs_length, List.length_append, List.length_cons, List.length_nil, List.length_take, List.length_drop, List.length_set, List.length_replicate]; omega)⟩) | exact Ref.ok_refl _ _ | ((first | refine fresh_tup ?_ | skip); (repeat (first | exact FreshA.nils | exact FreshA.nilp | exact FreshA.int _ _ | exact FreshA.bool _ | exact FreshA.str _ | exact fresh_nil | refine fresh_cons ?_ ?_)); done) | exact rfl | (simp; done)))
      | ((conv => whnf) <;> (first
          | (with_reducible refine and_same ?_)
          | (with_reducible refine and_side ?_ ?_)
          | (with_reducible refine Br.yes (by omega) ?_)
          | (with_reducible refine Br.no (by omega) ?_)
          | (with_reducible refine Br.mk (fun _ => ?_) (fun _ => ?_))
          | (with_reducible refine Both.mk ?_ ?_)
          | ((with_reducible apply blkAt_intro) ; (focus (first | exact rfl | (repeat (first | assumption | exact get_new | exact get_set (by assumption) | exact get_set get_new | apply get_old | (apply get_set_ne; (focus (first | omega | (simp only [newB_length, List.length_set, List.length_append, List.length_singleton]; omega)))))); done)) ; (focus (first | rfl | assumption | omega)) ; (try dsimp only))
          | ((with_reducible apply appendR_lit) ; (focus (first | exact rfl | (repeat (first | assumption | exact get_new | exact get_set (by assumption) | exact get_set get_new | apply get_old | (apply get_set_ne; (focus (first | omega | (simp only [newB_length, List.length_set, List.length_append, List.length_singleton]; omega)))))); done)) ; (focus (first | rfl | assumption)) ; (focus rfl) ; (focus rfl) ; (focus rfl) ; (focus (first | exact Nat.zero_le _ | omega | (simp; done) | (simp; omega))) ; (try dsimp only))
          | (with_reducible refine appendR_nil ?_ ?_)
          | (with_reducible refine lenR_own (by assumption) ?_)
          | (with_reducible refine rowsR_own (by assumption) ?_)
          | (with_reducible refine lenR_sl ?_)
          | (with_reducible refine lenR_nils ?_)
          | (with_reducible refine lenR_rsl ?_)
          | (with_reducible refine rowsR_sl ?_)
          | (with_reducible refine rowsR_nils ?_)
          | (with_reducible refine rowsR_rsl ?_)
          | (with_reducible refine lenR_slx ?_)
          | (with_reducible refine rowsR_slx ?_)
          | (with_reducible refine appendR_slx ?_ ?_ ?_)
          | (with_reducible refine bytesR_intro (by first | rfl | (simp only [bs_take, bs_drop, bs_append]; rfl)) ?_)
          | (with_reducible refine nthR_bs (by first | omega | (simp only [List.length_append, List.length_cons, List.length_nil, List.length_take, List.length_drop, bs_length]; omega)) (fun _ _ => ?_))
          | (with_reducible intro _))))
    all_goals (conv => whnf)
    all_goals (try dsimp only)
    refine (fits_ok n p.1 p.2).call (.cons (Looks.int _ _ _) (.cons (looks_chg1 _ _ _ _) .nil)) ?_
    rintro _ y σ2 rfl hg2 hG2
    obtain rfl := hG2.flat_inv rfl (by intros; simp)
    have hc : σ2[σ.length]? = some { sz := 2, els := [[AV.int .i64 p.1, .sl 1 (bs p.2) false]], gen := 0, wr := true, pure := true } := hg2.2 _ _ (get_set get_new) (by simp)
    by_cases hf : 0 ≤ p.1 ∧ p.1 < n ∧ p.2.length = 64
    · rw [decide_eq_true hf]
      repeat' (first
        | ((with_reducible refine Side.intro ?_) <;> (first | with_reducible rfl | omega | assumption | exact Nat.le_of_ble_eq_true rfl | (simp only [bs_length, List.length_append, List.length_cons, List.length_nil, List.length_take, List.length_drop, List.length_set, List.length_replicate]; omega) | exact .inl (by omega) | exact .inr (.inl ⟨rfl, by (simp only [bs_length, List.length_append, List.length_cons, List.length_nil, List.length_take, List.length_drop, List.length_set, List.length_replicate]; omega)⟩) | exact Ref.ok_refl _ _ | ((first | refine fresh_tup ?_ | skip); (repeat (first | exact FreshA.nils | exact FreshA.nilp | exact FreshA.int _ _ | exact FreshA.bool _ | exact FreshA.str _ | exact fresh_nil | refine fresh_cons ?_ ?_)); done) | exact rfl | (simp; done)))
        | ((conv => whnf) <;> (first
            | (with_reducible refine and_same ?_)
            | (with_reducible refine and_side ?_ ?_)
            | (with_reducible refine Br.yes (by omega) ?_)
            | (with_reducible refine Br.no (by omega) ?_)
            | (with_reducible refine Br.mk (fun _ => ?_) (fun _ => ?_))
            | (with_reducible refine Both.mk ?_ ?_)
            | ((with_reducible apply blkAt_intro) ; (focus (first | exact rfl | (repeat (first | assumption | exact get_new | exact get_set (by assumption) | exact get_set get_new | apply get_old | (apply get_set_ne; (focus (first | omega | (simp only [newB_length, List.length_set, List.length_append, List.length_singleton]; omega)))))); done)) ; (focus (first | rfl | assumption | omega)) ; (try dsimp only))
            | ((with_reducible apply appendR_lit) ; (focus (first | exact rfl | (repeat (first | assumption | exact get_new | exact get_set (by assumption) | exact get_set get_new | apply get_old | (apply get_set_ne; (focus (first | omega | (simp only [newB_length, List.length_set, List.length_append, List.length_singleton]; omega)))))); done)) ; (focus (first | rfl | assumption)) ; (focus rfl) ; (focus rfl) ; (focus rfl) ; (focus (first | exact Nat.zero_le _ | omega | (simp; done) | (simp; omega))) ; (try dsimp only))
            | (with_reducible refine appendR_nil ?_ ?_)
            | (with_reducible refine lenR_own (by assumption) ?_)
            | (with_reducible refine rowsR_own (by assumption) ?_)
            | (with_reducible refine lenR_sl ?_)
            | (with_reducible refine lenR_nils ?_)
            | (with_reducible refine lenR_rsl ?_)
            | (with_reducible refine rowsR_sl ?_)
            | (with_reducible refine rowsR_nils ?_)
            | (with_reducible refine rowsR_rsl ?_)
            | (with_reducible refine lenR_slx ?_)
            | (with_reducible refine rowsR_slx ?_)
            | (with_reducible refine appendR_slx ?_ ?_ ?_)
            | (with_reducible refine bytesR_intro (by first | rfl | (simp only [bs_take, bs_drop, bs_append]; rfl)) ?_)
            | (with_reducible refine nthR_bs (by first | omega | (simp only [List.length_append, List.length_cons, List.length_nil, List.length_take, List.length_drop, bs_length]; omega)) (fun _ _ => ?_))
            | (with_reducible intro _))))
      all_goals (conv => whnf)
      all_goals (try dsimp only)
      · refine nthR_chg (by omega) fun q hq => ?_
        have e1 : ((k : Int) - 1).toNat = k - 1 := by omega
        rw [e1] at hq
        have hok1 : okAt n L k = decide (q.1 < p.1) := by
          cases k with
          | zero => omega
          | succ i => simp only [Nat.add_sub_cancel] at hq; simp [okAt, hpk, hf, hq]
        repeat' (first
          | ((with_reducible refine Side.intro ?_) <;> (first | with_reducible rfl | omega | assumption | exact Nat.le_of_ble_eq_true rfl | (simp only [bs_length, List.length_append, List.length_cons, List.length_nil, List.length_take, List.length_drop, List.length_set, List.length_replicate]; omega) | exact .inl (by omega) | exact .inr (.inl ⟨rfl, by (simp only [bs_length, List.length_append, List.length_cons, List.length_nil, List.length_take, List.length_drop, List.length_set, List.length_replicate]; omega)⟩) | exact Ref.ok_refl _ _ | ((first | refine fresh_tup ?_ | skip); (repeat (first | exact FreshA.nils | exact FreshA.nilp | exact FreshA.int _ _ | exact FreshA.bool _ | exact FreshA.str _ | exact fresh_nil | refine fresh_cons ?_ ?_)); done) | exact rfl | (simp; done)))
          | ((conv => whnf) <;> (first
              | (with_reducible refine and_same ?_)
              | (with_reducible refine and_side ?_ ?_)
              | (with_reducible refine Br.yes (by omega) ?_)
              | (with_reducible refine Br.no (by omega) ?_)
              | (with_reducible refine Br.mk (fun _ => ?_) (fun _ => ?_))
              | (with_reducible refine Both.mk ?_ ?_)
              | ((with_reducible apply blkAt_intro) ; (focus (first | exact rfl | (repeat (first | assumption | exact get_new | exact get_set (by assumption) | exact get_set get_new | apply get_old | (apply get_set_ne; (focus (first | omega | (simp only [newB_length, List.length_set, List.length_append, List.length_singleton]; omega)))))); done)) ; (focus (first | rfl | assumption | omega)) ; (try dsimp only))
              | ((with_reducible apply appendR_lit) ; (focus (first | exact rfl | (repeat (first | assumption | exact get_new | exact get_set (by assumption) | exact get_set get_new | apply get_old | (apply get_set_ne; (focus (first | omega | (simp only [newB_length, List.length_set, List.length_append, List.length_singleton]; omega)))))); done)) ; (focus (first | rfl | assumption)) ; (focus rfl) ; (focus rfl) ; (focus rfl) ; (focus (first | exact Nat.zero_le _ | omega | (simp; done) | (simp; omega))) ; (try dsimp only))
              | (with_reducible refine appendR_nil ?_ ?_)
              | (with_reducible refine lenR_own (by assumption) ?_)
              | (with_reducible refine rowsR_own (by assumption) ?_)
              | (with_reducible refine lenR_sl ?_)
              | (with_reducible refine lenR_nils ?_)
              | (with_reducible refine lenR_rsl ?_)
              | (with_reducible refine rowsR_sl ?_)
              | (with_reducible refine rowsR_nils ?_)
              | (with_reducible refine rowsR_rsl ?_)
              | (with_reducible refine lenR_slx ?_)
              | (with_reducible refine rowsR_slx ?_)
              | (with_reducible refine appendR_slx ?_ ?_ ?_)
              | (with_reducible refine bytesR_intro (by first | rfl | (simp only [bs_take, bs_drop, bs_append]; rfl)) ?_)
              | (with_reducible refine nthR_bs (by first | omega | (simp only [List.length_append, List.length_cons, List.length_nil, List.length_take, List.length_drop, bs_length]; omega)) (fun _ _ => ?_))
              | (with_reducible intro _))))
        all_goals (conv => whnf)
        all_goals (try dsimp only)
        · exact ⟨_, .one (.refl _), by rw [rightB_false (j := k) (by omega) (by rw [hok1]; simpa using ‹p.1 ≤ q.1›)]⟩
        · refine ⟨(k + 1, σ2), rfl, rfl, ⟨by omega, fun j hj => ?_⟩, by omega⟩
          by_cases e : j = k
          · subst e; rw [hok1]; simp only [decide_eq_true_eq]; omega
          · exact hok j (by omega)
      · refine ⟨(k + 1, σ2), rfl, rfl, ⟨by omega, fun j hj => ?_⟩, by omega⟩
        by_cases e : j = k
        · subst e
          have hk0 : j = 0 := by omega
          subst hk0
          simp [okAt, hpk, hf]
        · exact hok j (by omega)
    · rw [decide_eq_false hf]
      repeat' (first
        | ((with_reducible refine Side.intro ?_) <;> (first | with_reducible rfl | omega | assumption | exact Nat.le_of_ble_eq_true rfl | (simp only [bs_length, List.length_append, List.length_cons, List.length_nil, List.length_take, List.length_drop, List.length_set, List.length_replicate]; omega) | exact .inl (by omega) | exact .inr (.inl ⟨rfl, by (simp only [bs_length, List.length_append, List.length_cons, List.length_nil, List.length_take, List.length_drop, List.length_set, List.length_replicate]; omega)⟩) | exact Ref.ok_refl _ _ | ((first | refine fresh_tup ?_ | skip); (repeat (first | exact FreshA.nils | exact FreshA.nilp | exact FreshA.int _ _ | exact FreshA.bool _ | exact FreshA.str _ | exact fresh_nil | refine fresh_cons ?_ ?_)); done) | exact rfl | (simp; done)))
        | ((conv => whnf) <;> (first
            | (with_reducible refine and_same ?_)
            | (with_reducible refine and_side ?_ ?_)
            | (with_reducible refine Br.yes (by omega) ?_)
            | (with_reducible refine Br.no (by omega) ?_)
            | (with_reducible refine Br.mk (fun _ => ?_) (fun _ => ?_))
            | (with_reducible refine Both.mk ?_ ?_)
            | ((with_reducible apply blkAt_intro) ; (focus (first | exact rfl | (repeat (first | assumption | exact get_new | exact get_set (by assumption) | exact get_set get_new | apply get_old | (apply get_set_ne; (focus (first | omega | (simp only [newB_length, List.length_set, List.length_append, List.length_singleton]; omega)))))); done)) ; (focus (first | rfl | assumption | omega)) ; (try dsimp only))
            | ((with_reducible apply appendR_lit) ; (focus (first | exact rfl | (repeat (first | assumption | exact get_new | exact get_set (by assumption) | exact get_set get_new | apply get_old | (apply get_set_ne; (focus (first | omega | (simp only [newB_length, List.length_set, List.length_append, List.length_singleton]; omega)))))); done)) ; (focus (first | rfl | assumption)) ; (focus rfl) ; (focus rfl) ; (focus rfl) ; (focus (first | exact Nat.zero_le _ | omega | (simp; done) | (simp; omega))) ; (try dsimp only))
            | (with_reducible refine appendR_nil ?_ ?_)
            | (with_reducible refine lenR_own (by assumption) ?_)
            | (with_reducible refine rowsR_own (by assumption) ?_)
            | (with_reducible refine lenR_sl ?_)
            | (with_reducible refine lenR_nils ?_)
            | (with_reducible refine lenR_rsl ?_)
            | (with_reducible refine rowsR_sl ?_)
            | (with_reducible refine rowsR_nils ?_)
            | (with_reducible refine rowsR_rsl ?_)
            | (with_reducible refine lenR_slx ?_)
            | (with_reducible refine rowsR_slx ?_)
            | (with_reducible refine appendR_slx ?_ ?_ ?_)
            | (with_reducible refine bytesR_intro (by first | rfl | (simp only [bs_take, bs_drop, bs_append]; rfl)) ?_)
            | (with_reducible refine nthR_bs (by first | omega | (simp only [List.length_append, List.length_cons, List.length_nil, List.length_take, List.length_drop, bs_length]; omega)) (fun _ _ => ?_))
            | (with_reducible intro _))))
      all_goals (conv => whnf)
      all_goals (try dsimp only)
      all_goals exact ⟨_, .one (.refl _), by rw [rightB_false (j := k) (by omega) (by simp [okAt, hpk, hf])]⟩
  · exact ⟨_, .one (.refl _), by rw [rightB_true (fun j hj => hok j (by omega))]⟩
end Go.Proofs.Ytlhogahibillpaa
