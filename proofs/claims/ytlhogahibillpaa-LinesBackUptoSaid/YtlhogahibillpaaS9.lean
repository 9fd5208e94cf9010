import Derived.Test.YtlhogahibillpaaS8
namespace Go.Proofs.Ytlhogahibillpaa
open Go Go.Proofs.Ytlhogahibillpaa.V
set_option maxRecDepth 20000
attribute [local irreducible] CallS AOK AOKn ALoop Side Ref.ok
theorem nthR_chg1 {fr : Bool} {l : List (Int × List UInt8)} {n : Nat} {K : List AV → Prop} {p : Int × List UInt8} (h : l[n]? = some p) (hk : K [.int .i64 p.1, .sl 1 (bs p.2) fr]) : nthR (chg fr l) n K :=
  nthR_intro (x := [.int .i64 p.1, .sl 1 (bs p.2) fr]) (by simp [chg, h]) hk
theorem ref_Right_ok (n : Int) (L : List (Int × List UInt8)) (hL : L.length ≤ 4611686018427) : AOKn Try.prog F.joistref04_Right [.int .i64 n, .sl 2 (chg false L) false] fun y => y = .bool (rightB n L) := by
  have hm := chg_length false L
  unfold AOKn
  refine AOK.by_steps mixed fc_joistref04_Right_ok (by simp [fc_joistref04_Right]) ?_
  repeat' (first
    | ((with_reducible refine Side.intro ?_) <;> (first | with_reducible rfl | omega | assumption | exact Nat.le_of_ble_eq_true rfl | (simp only [bs_length, List.length_append, List.length_cons, List.length_nil, List.length_take, List.length_drop, List.length_set, List.length_replicate]; omega) | exact .inl (by omega) | exact .inr (.inl ⟨rfl, by (simp only [bs_length, List.length_append, List.length_cons, List.length_nil, List.length_take, List.length_drop, List.length_set, List.length_replicate]; omega)⟩) | exact Ref.ok_refl _ _ | ((first | refine fresh_tup ?_ | skip); (repeat (first | exact FreshA.nils | exact FreshA.nilp | exact FreshA.int _ _ | exact FreshA.bool _ | exact FreshA.str _ | exact fresh_nil | refine fresh_cons ?_ ?_)); done) | exact rfl | (simp; done)))
    | ((conv => whnf) <;> (first
        | (with_reducible refine and_same ?_)
        | (with_reducible refine and_side ?_ ?_)
        | (with_reducible refine Br.yes (by omega) ?_)
        | (with_reducible refine Br.no (by omega) ?_)
        | (with_reducible refine Br.mk (fun _ => ?_) (fun _ => ?_))
        | (with_reducible refine Both.mk ?_ ?_)
        | ((with_reducible apply blkAt_intro) ; (focus (first | exact rfl | (repeat (first | assumption | exact get_new | exact get_set (by assumption) | exact get_set get_new | apply get_old | (apply get_set_ne; (focus (first | omega | (simp only [newB_length, List.length_set, List.length_append, List.length_singleton]; omega)))))); done)) ; (focus (first | rfl | assumption | omega)) ; (try dsimp only))
        | (with_reducible refine nthR_chg1 (by assumption) ?_)
        | ((with_reducible apply appendR_lit) ; (focus (first | exact rfl | (repeat (first | assumption | exact get_new | exact get_set (by assumption) | exact get_set get_new | apply get_old | (apply get_set_ne; (focus (first | omega | (simp only [newB_length, List.length_set, List.length_append, List.length_singleton]; omega)))))); done)) ; (focus (first | rfl | assumption)) ; (focus rfl) ; (focus rfl) ; (focus rfl) ; (focus (first | exact Nat.zero_le _ | omega | (simp; done) | (simp; omega))) ; (try dsimp only))
        | (with_reducible refine appendR_nil ?_ ?_)
        | (with_reducible refine lenR_own (by assumption) ?_)
        | (with_reducible refine rowsR_own (by assumption) ?_)
        | (with_reducible refine lenR_sl ?_)
        | (with_reducible refine lenR_nils ?_)
        | (with_reducible refine lenR_rsl ?_)
        | (with_reducible refine rowsR_sl ?_)
        | (with_reducible refine rowsR_nils ?_)
        | (with_reducible refine rowsR_rsl ?_)
        | (with_reducible refine lenR_slx ?_)
        | (with_reducible refine rowsR_slx ?_)
        | (with_reducible refine appendR_slx ?_ ?_ ?_)
        | (with_reducible refine bytesR_intro (by first | rfl | (simp only [bs_take, bs_drop, bs_append]; rfl)) ?_)
        | (with_reducible refine nthR_bs (by first | omega | (simp only [List.length_append, List.length_cons, List.length_nil, List.length_take, List.length_drop, bs_length]; omega)) (fun _ _ => ?_))
        | (with_reducible intro _))))
  all_goals (conv => whnf)
  all_goals (try dsimp only)
  refine loop_at (α := Nat) (fun a => [(5, .int .i64 a)]) (fun a => [])
      (fun a => a ≤ L.length ∧ ∀ j, j < a → okAt n L j = true) (fun a => L.length - a) 0 ⟨by omega, by simp⟩ rfl rfl ?_
  rintro k ⟨hk, hok⟩
  repeat' (first
    | ((with_reducible refine Side.intro ?_) <;> (first | with_reducible rfl | omega | assumption | exact Nat.le_of_ble_eq_true rfl | (simp only [bs_length, List.length_append, List.length_cons, List.length_nil, List.length_take, List.length_drop, List.length_set, List.length_replicate]; omega) | exact .inl (by omega) | exact .inr (.inl ⟨rfl, by (simp only [bs_length, List.length_append, List.length_cons, List.length_nil, List.length_take, List.length_drop, List.length_set, List.length_replicate]; omega)⟩) | exact Ref.ok_refl _ _ | ((first | refine fresh_tup ?_ | skip); (repeat (first | exact FreshA.nils | exact FreshA.nilp | exact FreshA.int _ _ | exact FreshA.bool _ | exact FreshA.str _ | exact fresh_nil | refine fresh_cons ?_ ?_)); done) | exact rfl | (simp; done)))
    | ((conv => whnf) <;> (first
        | (with_reducible refine and_same ?_)
        | (with_reducible refine and_side ?_ ?_)
        | (with_reducible refine Br.yes (by omega) ?_)
        | (with_reducible refine Br.no (by omega) ?_)
        | (with_reducible refine Br.mk (fun _ => ?_) (fun _ => ?_))
        | (with_reducible refine Both.mk ?_ ?_)
        | ((with_reducible apply blkAt_intro) ; (focus (first | exact rfl | (repeat (first | assumption | exact get_new | exact get_set (by assumption) | exact get_set get_new | apply get_old | (apply get_set_ne; (focus (first | omega | (simp only [newB_length, List.length_set, List.length_append, List.length_singleton]; omega)))))); done)) ; (focus (first | rfl | assumption | omega)) ; (try dsimp only))
        | (with_reducible refine nthR_chg1 (by assumption) ?_)
        | ((with_reducible apply appendR_lit) ; (focus (first | exact rfl | (repeat (first | assumption | exact get_new | exact get_set (by assumption) | exact get_set get_new | apply get_old | (apply get_set_ne; (focus (first | omega | (simp only [newB_length, List.length_set, List.length_append, List.length_singleton]; omega)))))); done)) ; (focus (first | rfl | assumption)) ; (focus rfl) ; (focus rfl) ; (focus rfl) ; (focus (first | exact Nat.zero_le _ | omega | (simp; done) | (simp; omega))) ; (try dsimp only))
        | (with_reducible refine appendR_nil ?_ ?_)
        | (with_reducible refine lenR_own (by assumption) ?_)
        | (with_reducible refine rowsR_own (by assumption) ?_)
        | (with_reducible refine lenR_sl ?_)
        | (with_reducible refine lenR_nils ?_)
        | (with_reducible refine lenR_rsl ?_)
        | (with_reducible refine rowsR_sl ?_)
        | (with_reducible refine rowsR_nils ?_)
        | (with_reducible refine rowsR_rsl ?_)
        | (with_reducible refine lenR_slx ?_)
        | (with_reducible refine rowsR_slx ?_)
        | (with_reducible refine appendR_slx ?_ ?_ ?_)
        | (with_reducible refine bytesR_intro (by first | rfl | (simp only [bs_take, bs_drop, bs_append]; rfl)) ?_)
        | (with_reducible refine nthR_bs (by first | omega | (simp only [List.length_append, List.length_cons, List.length_nil, List.length_take, List.length_drop, bs_length]; omega)) (fun _ _ => ?_))
        | (with_reducible intro _))))
  all_goals (conv => whnf)
  all_goals (try dsimp only)
  · obtain ⟨p, hp, hpk⟩ := getN (l := L) (k := k) (by omega)
    repeat' (first
      | ((with_reducible refine Side.intro ?_) <;> (first | with_reducible rfl | omega | assumption | exact Nat.le_of_ble_eq_true rfl | (simp only [bs_length, List.length_append, List.length_cons, List.length_nil, List.length_take, List.length_drop, List.length_set, List.length_replicate]; omega) | exact .inl (by omega) | exact .inr (.inl ⟨rfl, by (simp only [bs_length, List.length_append, List.length_cons, List.length_nil, List.length_take, List.length_drop, List.length_set, List.length_replicate]; omega)⟩) | exact Ref.ok_refl _ _ | ((first | refine fresh_tup ?_ | skip); (repeat (first | exact FreshA.nils | exact FreshA.nilp | exact FreshA.int _ _ | exact FreshA.bool _ | exact FreshA.str _ | exact fresh_nil | refine fresh_cons ?_ ?_)); done) | exact rfl | (simp; done)))
      | ((conv => whnf) <;> (first
          | (with_reducible refine and_same ?_)
          | (with_reducible refine and_side ?_ ?_)
          | (with_reducible refine Br.yes (by omega) ?_)
          | (with_reducible refine Br.no (by omega) ?_)
          | (with_reducible refine Br.mk (fun _ => ?_) (fun _ => ?_))
          | (with_reducible refine Both.mk ?_ ?_)
          | ((with_reducible apply blkAt_intro) ; (focus (first | exact rfl | (repeat (first | assumption | exact get_new | exact get_set (by assumption) | exact get_set get_new | apply get_old | (apply get_set_ne; (focus (first | omega | (simp only [newB_length, List.length_set, List.length_append, List.length_singleton]; omega)))))); done)) ; (focus (first | rfl | assumption | omega)) ; (try dsimp only))
          | (with_reducible refine nthR_chg1 (by assumption) ?_)
          | ((with_reducible apply appendR_lit) ; (focus (first | exact rfl | (repeat (first | assumption | exact get_new | exact get_set (by assumption) | exact get_set get_new | apply get_old | (apply get_set_ne; (focus (first | omega | (simp only [newB_length, List.length_set, List.length_append, List.length_singleton]; omega)))))); done)) ; (focus (first | rfl | assumption)) ; (focus rfl) ; (focus rfl) ; (focus rfl) ; (focus (first | exact Nat.zero_le _ | omega | (simp; done) | (simp; omega))) ; (try dsimp only))
          | (with_reducible refine appendR_nil ?_ ?_)
          | (with_reducible refine lenR_own (by assumption) ?_)
          | (with_reducible refine rowsR_own (by assumption) ?_)
          | (with_reducible refine lenR_sl ?_)
          | (with_reducible refine lenR_nils ?_)
          | (with_reducible refine lenR_rsl ?_)
          | (with_reducible refine rowsR_sl ?_)
          | (with_reducible refine rowsR_nils ?_)
          | (with_reducible refine rowsR_rsl ?_)
          | (with_reducible refine lenR_slx ?_)
          | (with_reducible refine rowsR_slx ?_)
          | (with_reducible refine appendR_slx ?_ ?_ ?_)
          | (with_reducible refine bytesR_intro (by first | rfl | (simp only [bs_take, bs_drop, bs_append]; rfl)) ?_)
          | (with_reducible refine nthR_bs (by first | omega | (simp only [List.length_append, List.length_cons, List.length_nil, List.length_take, List.length_drop, bs_length]; omega)) (fun _ _ => ?_))
          | (with_reducible intro _))))
    all_goals (conv => whnf)
    all_goals (try dsimp only)
    · exact ret_bool (rightB_false (j := k) (by omega) (by simp [okAt, hpk]; omega)).symm
    · exact ret_bool (rightB_false (j := k) (by omega) (by simp [okAt, hpk]; omega)).symm
    · have := bs_length p.2
      exact ret_bool (rightB_false (j := k) (by omega) (by simp [okAt, hpk]; omega)).symm
    · have hpl := bs_length p.2
      have hf : 0 ≤ p.1 ∧ p.1 < n ∧ p.2.length = 64 := by omega
      obtain ⟨q, hq⟩ : ∃ q, L[((k : Int) - 1).toNat]? = some q := ⟨_, List.getElem?_eq_getElem (by omega)⟩
      have hok1 : okAt n L k = decide (q.1 < p.1) := by
        cases k with
        | zero => omega
        | succ i =>
          have e1 : (((i + 1 : Nat) : Int) - 1).toNat = i := by omega
          rw [e1] at hq
          simp [okAt, hpk, hf, hq]
      repeat' (first
        | ((with_reducible refine Side.intro ?_) <;> (first | with_reducible rfl | omega | assumption | exact Nat.le_of_ble_eq_true rfl | (simp only [bs_length, List.length_append, List.length_cons, List.length_nil, List.length_take, List.length_drop, List.length_set, List.length_replicate]; omega) | exact .inl (by omega) | exact .inr (.inl ⟨rfl, by (simp only [bs_length, List.length_append, List.length_cons, List.length_nil, List.length_take, List.length_drop, List.length_set, List.length_replicate]; omega)⟩) | exact Ref.ok_refl _ _ | ((first | refine fresh_tup ?_ | skip); (repeat (first | exact FreshA.nils | exact FreshA.nilp | exact FreshA.int _ _ | exact FreshA.bool _ | exact FreshA.str _ | exact fresh_nil | refine fresh_cons ?_ ?_)); done) | exact rfl | (simp; done)))
        | ((conv => whnf) <;> (first
            | (with_reducible refine and_same ?_)
            | (with_reducible refine and_side ?_ ?_)
            | (with_reducible refine Br.yes (by omega) ?_)
            | (with_reducible refine Br.no (by omega) ?_)
            | (with_reducible refine Br.mk (fun _ => ?_) (fun _ => ?_))
            | (with_reducible refine Both.mk ?_ ?_)
            | ((with_reducible apply blkAt_intro) ; (focus (first | exact rfl | (repeat (first | assumption | exact get_new | exact get_set (by assumption) | exact get_set get_new | apply get_old | (apply get_set_ne; (focus (first | omega | (simp only [newB_length, List.length_set, List.length_append, List.length_singleton]; omega)))))); done)) ; (focus (first | rfl | assumption | omega)) ; (try dsimp only))
            | (with_reducible refine nthR_chg1 (by assumption) ?_)
            | ((with_reducible apply appendR_lit) ; (focus (first | exact rfl | (repeat (first | assumption | exact get_new | exact get_set (by assumption) | exact get_set get_new | apply get_old | (apply get_set_ne; (focus (first | omega | (simp only [newB_length, List.length_set, List.length_append, List.length_singleton]; omega)))))); done)) ; (focus (first | rfl | assumption)) ; (focus rfl) ; (focus rfl) ; (focus rfl) ; (focus (first | exact Nat.zero_le _ | omega | (simp; done) | (simp; omega))) ; (try dsimp only))
            | (with_reducible refine appendR_nil ?_ ?_)
            | (with_reducible refine lenR_own (by assumption) ?_)
            | (with_reducible refine rowsR_own (by assumption) ?_)
            | (with_reducible refine lenR_sl ?_)
            | (with_reducible refine lenR_nils ?_)
            | (with_reducible refine lenR_rsl ?_)
            | (with_reducible refine rowsR_sl ?_)
            | (with_reducible refine rowsR_nils ?_)
            | (with_reducible refine rowsR_rsl ?_)
            | (with_reducible refine lenR_slx ?_)
            | (with_reducible refine rowsR_slx ?_)
            | (with_reducible refine appendR_slx ?_ ?_ ?_)
            | (with_reducible refine bytesR_intro (by first | rfl | (simp only [bs_take, bs_drop, bs_append]; rfl)) ?_)
            | (with_reducible refine nthR_bs (by first | omega | (simp only [List.length_append, List.length_cons, List.length_nil, List.length_take, List.length_drop, bs_length]; omega)) (fun _ _ => ?_))
            | (with_reducible intro _))))
      all_goals (conv => whnf)
      all_goals (try dsimp only)
      · exact ret_bool (rightB_false (j := k) (by omega) (by rw [hok1]; simpa using ‹p.1 ≤ q.1›)).symm
      · refine ⟨k + 1, rfl, rfl, ⟨by omega, fun j hj => ?_⟩, by omega⟩
        by_cases e : j = k
        · subst e; rw [hok1]; simp only [decide_eq_true_eq]; omega
        · exact hok j (by omega)
    · have hpl := bs_length p.2
      have hf : 0 ≤ p.1 ∧ p.1 < n ∧ p.2.length = 64 := by omega
      refine ⟨k + 1, rfl, rfl, ⟨by omega, fun j hj => ?_⟩, by omega⟩
      by_cases e : j = k
      · subst e
        have hk0 : j = 0 := by omega
        subst hk0
        simp [okAt, hpk, hf]
      · exact hok j (by omega)
  · exact ⟨_, .one (.refl _), by rw [rightB_true (fun j hj => hok j (by omega))]⟩
theorem ref_Same_ok (L M : List (Int × List UInt8)) (hL : L.length ≤ 4611686018427) (hM : M.length ≤ 4611686018427) : AOKn Try.prog F.joistref04_Same [.sl 2 (chg false L) false, .sl 2 (chg false M) false] fun y => y = .bool (decide (L = M)) := by
  have hm := chg_length false L
  have hn := chg_length false M
  unfold AOKn
  refine AOK.by_steps mixed fc_joistref04_Same_ok (by simp [fc_joistref04_Same]) ?_
  repeat' (first
    | ((with_reducible refine Side.intro ?_) <;> (first | with_reducible rfl | omega | assumption | exact Nat.le_of_ble_eq_true rfl | (simp only [bs_length, List.length_append, List.length_cons, List.length_nil, List.length_take, List.length_drop, List.length_set, List.length_replicate]; omega) | exact .inl (by omega) | exact .inr (.inl ⟨rfl, by (simp only [bs_length, List.length_append, List.length_cons, List.length_nil, List.length_take, List.length_drop, List.length_set, List.length_replicate]; omega)⟩) | exact Ref.ok_refl _ _ | ((first | refine fresh_tup ?_ | skip); (repeat (first | exact FreshA.nils | exact FreshA.nilp | exact FreshA.int _ _ | exact FreshA.bool _ | exact FreshA.str _ | exact fresh_nil | refine fresh_cons ?_ ?_)); done) | exact rfl | (simp; done)))
    | ((conv => whnf) <;> (first
        | (with_reducible refine and_same ?_)
        | (with_reducible refine and_side ?_ ?_)
        | (with_reducible refine Br.yes (by omega) ?_)
        | (with_reducible refine Br.no (by omega) ?_)
        | (with_reducible refine Br.mk (fun _ => ?_) (fun _ => ?_))
        | (with_reducible refine Both.mk ?_ ?_)
        | ((with_reducible apply blkAt_intro) ; (focus (first | exact rfl | (repeat (first | assumption | exact get_new | exact get_set (by assumption) | exact get_set get_new | apply get_old | (apply get_set_ne; (focus (first | omega | (simp only [newB_length, List.length_set, List.length_append, List.length_singleton]; omega)))))); done)) ; (focus (first | rfl | assumption | omega)) ; (try dsimp only))
        | (with_reducible refine nthR_chg1 (by assumption) ?_)
        | ((with_reducible apply appendR_lit) ; (focus (first | exact rfl | (repeat (first | assumption | exact get_new | exact get_set (by assumption) | exact get_set get_new | apply get_old | (apply get_set_ne; (focus (first | omega | (simp only [newB_length, List.length_set, List.length_append, List.length_singleton]; omega)))))); done)) ; (focus (first | rfl | assumption)) ; (focus rfl) ; (focus rfl) ; (focus rfl) ; (focus (first | exact Nat.zero_le _ | omega | (simp; done) | (simp; omega))) ; (try dsimp only))
        | (with_reducible refine appendR_nil ?_ ?_)
        | (with_reducible refine lenR_own (by assumption) ?_)
        | (with_reducible refine rowsR_own (by assumption) ?_)
        | (with_reducible refine lenR_sl ?_)
        | (with_reducible refine lenR_nils ?_)
        | (with_reducible refine lenR_rsl ?_)
        | (with_reducible refine rowsR_sl ?_)
        | (with_reducible refine rowsR_nils ?_)
        | (with_reducible refine rowsR_rsl ?_)
        | (with_reducible refine lenR_slx ?_)
        | (with_reducible refine rowsR_slx ?_)
        | (with_reducible refine appendR_slx ?_ ?_ ?_)
        | (with_reducible refine bytesR_intro (by first | rfl | (simp only [bs_take, bs_drop, bs_append]; rfl)) ?_)
        | (with_reducible refine nthR_bs (by first | omega | (simp only [List.length_append, List.length_cons, List.length_nil, List.length_take, List.length_drop, bs_length]; omega)) (fun _ _ => ?_))
        | (with_reducible intro _))))
  all_goals (conv => whnf)
  all_goals (try dsimp only)
  · rename_i h
    exact ⟨_, .one (.refl _), by rw [decide_eq_false (fun e => h (by rw [e]))]⟩
  refine loop_at (α := Nat) (fun a => [(5, .int .i64 a)]) (fun a => [])
      (fun a => a ≤ L.length ∧ ∀ j, j < a → L[j]? = M[j]?) (fun a => L.length - a) 0 ⟨by omega, by simp⟩ rfl rfl ?_
  rintro k ⟨hk, hok⟩
  repeat' (first
    | ((with_reducible refine Side.intro ?_) <;> (first | with_reducible rfl | omega | assumption | exact Nat.le_of_ble_eq_true rfl | (simp only [bs_length, List.length_append, List.length_cons, List.length_nil, List.length_take, List.length_drop, List.length_set, List.length_replicate]; omega) | exact .inl (by omega) | exact .inr (.inl ⟨rfl, by (simp only [bs_length, List.length_append, List.length_cons, List.length_nil, List.length_take, List.length_drop, List.length_set, List.length_replicate]; omega)⟩) | exact Ref.ok_refl _ _ | ((first | refine fresh_tup ?_ | skip); (repeat (first | exact FreshA.nils | exact FreshA.nilp | exact FreshA.int _ _ | exact FreshA.bool _ | exact FreshA.str _ | exact fresh_nil | refine fresh_cons ?_ ?_)); done) | exact rfl | (simp; done)))
    | ((conv => whnf) <;> (first
        | (with_reducible refine and_same ?_)
        | (with_reducible refine and_side ?_ ?_)
        | (with_reducible refine Br.yes (by omega) ?_)
        | (with_reducible refine Br.no (by omega) ?_)
        | (with_reducible refine Br.mk (fun _ => ?_) (fun _ => ?_))
        | (with_reducible refine Both.mk ?_ ?_)
        | ((with_reducible apply blkAt_intro) ; (focus (first | exact rfl | (repeat (first | assumption | exact get_new | exact get_set (by assumption) | exact get_set get_new | apply get_old | (apply get_set_ne; (focus (first | omega | (simp only [newB_length, List.length_set, List.length_append, List.length_singleton]; omega)))))); done)) ; (focus (first | rfl | assumption | omega)) ; (try dsimp only))
        | (with_reducible refine nthR_chg1 (by assumption) ?_)
        | ((with_reducible apply appendR_lit) ; (focus (first | exact rfl | (repeat (first | assumption | exact get_new | exact get_set (by assumption) | exact get_set get_new | apply get_old | (apply get_set_ne; (focus (first | omega | (simp only [newB_length, List.length_set, List.length_append, List.length_singleton]; omega)))))); done)) ; (focus (first | rfl | assumption)) ; (focus rfl) ; (focus rfl) ; (focus rfl) ; (focus (first | exact Nat.zero_le _ | omega | (simp; done) | (simp; omega))) ; (try dsimp only))
        | (with_reducible refine appendR_nil ?_ ?_)
        | (with_reducible refine lenR_own (by assumption) ?_)
        | (with_reducible refine rowsR_own (by assumption) ?_)
        | (with_reducible refine lenR_sl ?_)
        | (with_reducible refine lenR_nils ?_)
        | (with_reducible refine lenR_rsl ?_)
        | (with_reducible refine rowsR_sl ?_)
        | (with_reducible refine rowsR_nils ?_)
        | (with_reducible refine rowsR_rsl ?_)
        | (with_reducible refine lenR_slx ?_)
        | (with_reducible refine rowsR_slx ?_)
        | (with_reducible refine appendR_slx ?_ ?_ ?_)
        | (with_reducible refine bytesR_intro (by first | rfl | (simp only [bs_take, bs_drop, bs_append]; rfl)) ?_)
        | (with_reducible refine nthR_bs (by first | omega | (simp only [List.length_append, List.length_cons, List.length_nil, List.length_take, List.length_drop, bs_length]; omega)) (fun _ _ => ?_))
        | (with_reducible intro _))))
  all_goals (conv => whnf)
  all_goals (try dsimp only)
  · obtain ⟨p, hp, hpk⟩ := getN (l := L) (k := k) (by omega)
    obtain ⟨q, hq, hqk⟩ := getN (l := M) (k := k) (by omega)
    repeat' (first
      | ((with_reducible refine Side.intro ?_) <;> (first | with_reducible rfl | omega | assumption | exact Nat.le_of_ble_eq_true rfl | (simp only [bs_length, List.length_append, List.length_cons, List.length_nil, List.length_take, List.length_drop, List.length_set, List.length_replicate]; omega) | exact .inl (by omega) | exact .inr (.inl ⟨rfl, by (simp only [bs_length, List.length_append, List.length_cons, List.length_nil, List.length_take, List.length_drop, List.length_set, List.length_replicate]; omega)⟩) | exact Ref.ok_refl _ _ | ((first | refine fresh_tup ?_ | skip); (repeat (first | exact FreshA.nils | exact FreshA.nilp | exact FreshA.int _ _ | exact FreshA.bool _ | exact FreshA.str _ | exact fresh_nil | refine fresh_cons ?_ ?_)); done) | exact rfl | (simp; done)))
      | ((conv => whnf) <;> (first
          | (with_reducible refine and_same ?_)
          | (with_reducible refine and_side ?_ ?_)
          | (with_reducible refine Br.yes (by omega) ?_)
          | (with_reducible refine Br.no (by omega) ?_)
          | (with_reducible refine Br.mk (fun _ => ?_) (fun _ => ?_))
          | (with_reducible refine Both.mk ?_ ?_)
          | ((with_reducible apply blkAt_intro) ; (focus (first | exact rfl | (repeat (first | assumption | exact get_new | exact get_set (by assumption) | exact get_set get_new | apply get_old | (apply get_set_ne; (focus (first | omega | (simp only [newB_length, List.length_set, List.length_append, List.length_singleton]; omega)))))); done)) ; (focus (first | rfl | assumption | omega)) ; (try dsimp only))
          | (with_reducible refine nthR_chg1 (by assumption) ?_)
          | ((with_reducible apply appendR_lit) ; (focus (first | exact rfl | (repeat (first | assumption | exact get_new | exact get_set (by assumption) | exact get_set get_new | apply get_old | (apply get_set_ne; (focus (first | omega | (simp only [newB_length, List.length_set, List.length_append, List.length_singleton]; omega)))))); done)) ; (focus (first | rfl | assumption)) ; (focus rfl) ; (focus rfl) ; (focus rfl) ; (focus (first | exact Nat.zero_le _ | omega | (simp; done) | (simp; omega))) ; (try dsimp only))
          | (with_reducible refine appendR_nil ?_ ?_)
          | (with_reducible refine lenR_own (by assumption) ?_)
          | (with_reducible refine rowsR_own (by assumption) ?_)
          | (with_reducible refine lenR_sl ?_)
          | (with_reducible refine lenR_nils ?_)
          | (with_reducible refine lenR_rsl ?_)
          | (with_reducible refine rowsR_sl ?_)
          | (with_reducible refine rowsR_nils ?_)
          | (with_reducible refine rowsR_rsl ?_)
          | (with_reducible refine lenR_slx ?_)
          | (with_reducible refine rowsR_slx ?_)
          | (with_reducible refine appendR_slx ?_ ?_ ?_)
          | (with_reducible refine bytesR_intro (by first | rfl | (simp only [bs_take, bs_drop, bs_append]; rfl)) ?_)
          | (with_reducible refine nthR_bs (by first | omega | (simp only [List.length_append, List.length_cons, List.length_nil, List.length_take, List.length_drop, bs_length]; omega)) (fun _ _ => ?_))
          | (with_reducible intro _))))
    all_goals (conv => whnf)
    all_goals (try dsimp only)
    · rename_i hne
      exact ret_bool (decide_eq_false fun e => hne (by subst e; rw [hpk] at hqk; cases hqk; rfl)).symm
    · rename_i hne
      exact ret_bool (decide_eq_false fun e => hne (by subst e; rw [hpk] at hqk; cases hqk; rfl)).symm
    · refine ⟨k + 1, rfl, rfl, ⟨by omega, fun j hj => ?_⟩, by omega⟩
      by_cases e : j = k
      · subst e
        rw [hpk, hqk]
        obtain ⟨p1, p2⟩ := p
        obtain ⟨q1, q2⟩ := q
        simp_all
      · exact hok j (by omega)
  · refine ret_bool (decide_eq_true ?_).symm
    apply List.ext_getElem?
    intro j
    by_cases hj : j < k
    · exact hok j hj
    · rw [List.getElem?_eq_none (by omega), List.getElem?_eq_none (by omega)]
theorem Few_ok (L : List (Int × List UInt8)) (hL : L.length ≤ 4611686018427) : AOKn Try.prog F.joistlaw04_Few [.sl 2 (chg false L) false] fun y => y = .bool (decide ((∀ p, p ∈ L → p.2.length ≤ 1024) ∧ L.length ≤ 300)) := by
  have hm := chg_length false L
  unfold AOKn
  refine AOK.by_steps mixed fc_joistlaw04_Few_ok (by simp [fc_joistlaw04_Few]) ?_
  repeat' (first
    | ((with_reducible refine Side.intro ?_) <;> (first | with_reducible rfl | omega | assumption | exact Nat.le_of_ble_eq_true rfl | (simp only [bs_length, List.length_append, List.length_cons, List.length_nil, List.length_take, List.length_drop, List.length_set, List.length_replicate]; omega) | exact .inl (by omega) | exact .inr (.inl ⟨rfl, by (simp only [bs_length, List.length_append, List.length_cons, List.length_nil, List.length_take, List.length_drop, List.length_set, List.length_replicate]; omega)⟩) | exact Ref.ok_refl _ _ | ((first | refine fresh_tup ?_ | skip); (repeat (first | exact FreshA.nils | exact FreshA.nilp | exact FreshA.int _ _ | exact FreshA.bool _ | exact FreshA.str _ | exact fresh_nil | refine fresh_cons ?_ ?_)); done) | exact rfl | (simp; done)))
    | ((conv => whnf) <;> (first
        | (with_reducible refine and_same ?_)
        | (with_reducible refine and_side ?_ ?_)
        | (with_reducible refine Br.yes (by omega) ?_)
        | (with_reducible refine Br.no (by omega) ?_)
        | (with_reducible refine Br.mk (fun _ => ?_) (fun _ => ?_))
        | (with_reducible refine Both.mk ?_ ?_)
        | ((with_reducible apply blkAt_intro) ; (focus (first | exact rfl | (repeat (first | assumption | exact get_new | exact get_set (by assumption) | exact get_set get_new | apply get_old | (apply get_set_ne; (focus (first | omega | (simp only [newB_length, List.length_set, List.length_append, List.length_singleton]; omega)))))); done)) ; (focus (first | rfl | assumption | omega)) ; (try dsimp only))
        | (with_reducible refine nthR_chg1 (by assumption) ?_)
        | ((with_reducible apply appendR_lit) ; (focus (first | exact rfl | (repeat (first | assumption | exact get_new | exact get_set (by assumption) | exact get_set get_new | apply get_old | (apply get_set_ne; (focus (first | omega | (simp only [newB_length, List.length_set, List.length_append, List.length_singleton]; omega)))))); done)) ; (focus (first | rfl | assumption)) ; (focus rfl) ; (focus rfl) ; (focus rfl) ; (focus (first | exact Nat.zero_le _ | omega | (simp; done) | (simp; omega))) ; (try dsimp only))
        | (with_reducible refine appendR_nil ?_ ?_)
        | (with_reducible refine lenR_own (by assumption) ?_)
        | (with_reducible refine rowsR_own (by assumption) ?_)
        | (with_reducible refine lenR_sl ?_)
        | (with_reducible refine lenR_nils ?_)
        | (with_reducible refine lenR_rsl ?_)
        | (with_reducible refine rowsR_sl ?_)
        | (with_reducible refine rowsR_nils ?_)
        | (with_reducible refine rowsR_rsl ?_)
        | (with_reducible refine lenR_slx ?_)
        | (with_reducible refine rowsR_slx ?_)
        | (with_reducible refine appendR_slx ?_ ?_ ?_)
        | (with_reducible refine bytesR_intro (by first | rfl | (simp only [bs_take, bs_drop, bs_append]; rfl)) ?_)
        | (with_reducible refine nthR_bs (by first | omega | (simp only [List.length_append, List.length_cons, List.length_nil, List.length_take, List.length_drop, bs_length]; omega)) (fun _ _ => ?_))
        | (with_reducible intro _))))
  all_goals (conv => whnf)
  all_goals (try dsimp only)
  refine loop_at (α := Nat) (fun a => [(3, .int .i64 a)]) (fun a => [])
      (fun a => a ≤ L.length ∧ ∀ j p, j < a → L[j]? = some p → p.2.length ≤ 1024) (fun a => L.length - a) 0 ⟨by omega, by simp⟩ rfl rfl ?_
  rintro k ⟨hk, hok⟩
  repeat' (first
    | ((with_reducible refine Side.intro ?_) <;> (first | with_reducible rfl | omega | assumption | exact Nat.le_of_ble_eq_true rfl | (simp only [bs_length, List.length_append, List.length_cons, List.length_nil, List.length_take, List.length_drop, List.length_set, List.length_replicate]; omega) | exact .inl (by omega) | exact .inr (.inl ⟨rfl, by (simp only [bs_length, List.length_append, List.length_cons, List.length_nil, List.length_take, List.length_drop, List.length_set, List.length_replicate]; omega)⟩) | exact Ref.ok_refl _ _ | ((first | refine fresh_tup ?_ | skip); (repeat (first | exact FreshA.nils | exact FreshA.nilp | exact FreshA.int _ _ | exact FreshA.bool _ | exact FreshA.str _ | exact fresh_nil | refine fresh_cons ?_ ?_)); done) | exact rfl | (simp; done)))
    | ((conv => whnf) <;> (first
        | (with_reducible refine and_same ?_)
        | (with_reducible refine and_side ?_ ?_)
        | (with_reducible refine Br.yes (by omega) ?_)
        | (with_reducible refine Br.no (by omega) ?_)
        | (with_reducible refine Br.mk (fun _ => ?_) (fun _ => ?_))
        | (with_reducible refine Both.mk ?_ ?_)
        | ((with_reducible apply blkAt_intro) ; (focus (first | exact rfl | (repeat (first | assumption | exact get_new | exact get_set (by assumption) | exact get_set get_new | apply get_old | (apply get_set_ne; (focus (first | omega | (simp only [newB_length, List.length_set, List.length_append, List.length_singleton]; omega)))))); done)) ; (focus (first | rfl | assumption | omega)) ; (try dsimp only))
        | (with_reducible refine nthR_chg1 (by assumption) ?_)
        | ((with_reducible apply appendR_lit) ; (focus (first | exact rfl | (repeat (first | assumption | exact get_new | exact get_set (by assumption) | exact get_set get_new | apply get_old | (apply get_set_ne; (focus (first | omega | (simp only [newB_length, List.length_set, List.length_append, List.length_singleton]; omega)))))); done)) ; (focus (first | rfl | assumption)) ; (focus rfl) ; (focus rfl) ; (focus rfl) ; (focus (first | exact Nat.zero_le _ | omega | (simp; done) | (simp; omega))) ; (try dsimp only))
        | (with_reducible refine appendR_nil ?_ ?_)
        | (with_reducible refine lenR_own (by assumption) ?_)
        | (with_reducible refine rowsR_own (by assumption) ?_)
        | (with_reducible refine lenR_sl ?_)
        | (with_reducible refine lenR_nils ?_)
        | (with_reducible refine lenR_rsl ?_)
        | (with_reducible refine rowsR_sl ?_)
        | (with_reducible refine rowsR_nils ?_)
        | (with_reducible refine rowsR_rsl ?_)
        | (with_reducible refine lenR_slx ?_)
        | (with_reducible refine rowsR_slx ?_)
        | (with_reducible refine appendR_slx ?_ ?_ ?_)
        | (with_reducible refine bytesR_intro (by first | rfl | (simp only [bs_take, bs_drop, bs_append]; rfl)) ?_)
        | (with_reducible refine nthR_bs (by first | omega | (simp only [List.length_append, List.length_cons, List.length_nil, List.length_take, List.length_drop, bs_length]; omega)) (fun _ _ => ?_))
        | (with_reducible intro _))))
  all_goals (conv => whnf)
  all_goals (try dsimp only)
  · obtain ⟨p, hp, hpk⟩ := getN (l := L) (k := k) (by omega)
    have hpl := bs_length p.2
    repeat' (first
      | ((with_reducible refine Side.intro ?_) <;> (first | with_reducible rfl | omega | assumption | exact Nat.le_of_ble_eq_true rfl | (simp only [bs_length, List.length_append, List.length_cons, List.length_nil, List.length_take, List.length_drop, List.length_set, List.length_replicate]; omega) | exact .inl (by omega) | exact .inr (.inl ⟨rfl, by (simp only [bs_length, List.length_append, List.length_cons, List.length_nil, List.length_take, List.length_drop, List.length_set, List.length_replicate]; omega)⟩) | exact Ref.ok_refl _ _ | ((first | refine fresh_tup ?_ | skip); (repeat (first | exact FreshA.nils | exact FreshA.nilp | exact FreshA.int _ _ | exact FreshA.bool _ | exact FreshA.str _ | exact fresh_nil | refine fresh_cons ?_ ?_)); done) | exact rfl | (simp; done)))
      | ((conv => whnf) <;> (first
          | (with_reducible refine and_same ?_)
          | (with_reducible refine and_side ?_ ?_)
          | (with_reducible refine Br.yes (by omega) ?_)
          | (with_reducible refine Br.no (by omega) ?_)
          | (with_reducible refine Br.mk (fun _ => ?_) (fun _ => ?_))
          | (with_reducible refine Both.mk ?_ ?_)
          | ((with_reducible apply blkAt_intro) ; (focus (first | exact rfl | (repeat (first | assumption | exact get_new | exact get_set (by assumption) | exact get_set get_new | apply get_old | (apply get_set_ne; (focus (first | omega | (simp only [newB_length, List.length_set, List.length_append, List.length_singleton]; omega)))))); done)) ; (focus (first | rfl | assumption | omega)) ; (try dsimp only))
          | (with_reducible refine nthR_chg1 (by assumption) ?_)
          | ((with_reducible apply appendR_lit) ; (focus (first | exact rfl | (repeat (first | assumption | exact get_new | exact get_set (by assumption) | exact get_set get_new | apply get_old | (apply get_set_ne; (focus (first | omega | (simp only [newB_length, List.length_set, List.length_append, List.length_singleton]; omega)))))); done)) ; (focus (first | rfl | assumption)) ; (focus rfl) ; (focus rfl) ; (focus rfl) ; (focus (first | exact Nat.zero_le _ | omega | (simp; done) | (simp; omega))) ; (try dsimp only))
          | (with_reducible refine appendR_nil ?_ ?_)
          | (with_reducible refine lenR_own (by assumption) ?_)
          | (with_reducible refine rowsR_own (by assumption) ?_)
          | (with_reducible refine lenR_sl ?_)
          | (with_reducible refine lenR_nils ?_)
          | (with_reducible refine lenR_rsl ?_)
          | (with_reducible refine rowsR_sl ?_)
          | (with_reducible refine rowsR_nils ?_)
          | (with_reducible refine rowsR_rsl ?_)
          | (with_reducible refine lenR_slx ?_)
          | (with_reducible refine rowsR_slx ?_)
          | (with_reducible refine appendR_slx ?_ ?_ ?_)
          | (with_reducible refine bytesR_intro (by first | rfl | (simp only [bs_take, bs_drop, bs_append]; rfl)) ?_)
          | (with_reducible refine nthR_bs (by first | omega | (simp only [List.length_append, List.length_cons, List.length_nil, List.length_take, List.length_drop, bs_length]; omega)) (fun _ _ => ?_))
          | (with_reducible intro _))))
    all_goals (conv => whnf)
    all_goals (try dsimp only)
    · exact ret_bool (decide_eq_false fun e => by have := e.1 p (List.mem_of_getElem? hpk); omega).symm
    · refine ⟨k + 1, rfl, rfl, ⟨by omega, fun j q hj hq => ?_⟩, by omega⟩
      by_cases e : j = k
      · subst e; rw [hpk] at hq; cases hq; omega
      · exact hok j q (by omega) hq
  · refine ret_bool (decide_eq_true ⟨fun p hp => ?_, by omega⟩).symm
    obtain ⟨j, hj⟩ := List.mem_iff_getElem?.1 hp
    exact hok j p (by have := (List.getElem?_eq_some_iff.1 hj).1; omega) hj
  · exact ret_bool (decide_eq_false fun e => by have := e.2; omega).symm
end Go.Proofs.Ytlhogahibillpaa
