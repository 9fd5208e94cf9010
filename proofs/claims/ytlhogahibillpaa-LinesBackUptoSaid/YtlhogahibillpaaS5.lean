import Derived.Test.YtlhogahibillpaaI
import Derived.Test.YtlhogahibillpaaVI
namespace Go.Proofs.Ytlhogahibillpaa
open Go Go.Proofs.Ytlhogahibillpaa.V
set_option maxRecDepth 20000
attribute [local irreducible] CallS AOK AOKn ALoop Side Ref.ok
theorem lent_rows (s : List UInt8) : List.take 0 (List.replicate ((s.length : Int) + 1).toNat [AV.int .u8 0]) ++ List.take (min s.length (s.length : Int).toNat) (bs s) ++ List.drop (0 + min s.length (s.length : Int).toNat) (List.replicate ((s.length : Int) + 1).toNat [AV.int .u8 0]) = bs (s ++ [0]) := by
  have e1 : ((s.length : Int) + 1).toNat = s.length + 1 := by omega
  have e2 : min s.length (s.length : Int).toNat = s.length := by omega
  rw [e1, e2, List.take_zero, List.nil_append, Nat.zero_add, List.drop_replicate, List.take_of_length_le (by rw [bs_length]; exact Nat.le_refl _), show s.length + 1 - s.length = 1 from by omega]
  simp [bs]
theorem Lent_val (σ : AH) (s : List UInt8) (fr : Bool) (hs : s.length ≤ 4611686018427) (Q : AV → AH → Prop) (h : Q (.rsl σ.length 0 0 s.length none) (σ ++ [{ sz := 1, els := bs (s ++ [77]), gen := 0, wr := true, pure := true }])) : CallS Try.prog F.joistlaw01_Lent [.sl 1 (bs s) fr] σ Q := by
  have hn := bs_length s
  refine call_of_body mixed fc_joistlaw01_Lent_ok (by simp [fc_joistlaw01_Lent]) ?_
  repeat' (first
    | ((with_reducible refine Side.intro ?_) <;> (first | with_reducible rfl | omega | assumption | exact Nat.le_of_ble_eq_true rfl | (simp only [bs_length, List.length_append, List.length_cons, List.length_nil, List.length_take, List.length_drop, List.length_set, List.length_replicate]; omega) | exact .inl (by omega) | exact .inr (.inl ⟨rfl, by (simp only [bs_length, List.length_append, List.length_cons, List.length_nil, List.length_take, List.length_drop, List.length_set, List.length_replicate]; omega)⟩) | exact Ref.ok_refl _ _ | ((first | refine fresh_tup ?_ | skip); (repeat (first | exact FreshA.nils | exact FreshA.nilp | exact FreshA.int _ _ | exact FreshA.bool _ | exact FreshA.str _ | exact fresh_nil | refine fresh_cons ?_ ?_)); done) | exact rfl | (simp; done)))
    | ((conv => whnf) <;> (first
        | (with_reducible refine and_same ?_)
        | (with_reducible refine and_side ?_ ?_)
        | (with_reducible refine Br.yes (by omega) ?_)
        | (with_reducible refine Br.no (by omega) ?_)
        | (with_reducible refine Br.mk (fun _ => ?_) (fun _ => ?_))
        | (with_reducible refine Both.mk ?_ ?_)
        | ((with_reducible apply blkAt_intro) ; (focus (first | exact rfl | (repeat (first | assumption | exact get_new | exact get_set (by assumption) | exact get_set get_new | apply get_old | (apply get_set_ne; (focus (first | omega | (simp only [newB_length, List.length_set, List.length_append, List.length_singleton]; omega)))))); done)) ; (focus (first | rfl | assumption | omega)) ; (try dsimp only))
        | ((with_reducible apply appendR_lit) ; (focus (first | exact rfl | (repeat (first | assumption | exact get_new | exact get_set (by assumption) | exact get_set get_new | apply get_old | (apply get_set_ne; (focus (first | omega | (simp only [newB_length, List.length_set, List.length_append, List.length_singleton]; omega)))))); done)) ; (focus (first | rfl | assumption)) ; (focus rfl) ; (focus rfl) ; (focus rfl) ; (focus (first | exact Nat.zero_le _ | omega | (simp; done) | (simp; omega))) ; (try dsimp only))
        | (with_reducible refine appendR_nil ?_ ?_)
        | (with_reducible refine lenR_own (by assumption) ?_)
        | (with_reducible refine rowsR_own (by assumption) ?_)
        | (with_reducible refine lenR_sl ?_)
        | (with_reducible refine lenR_nils ?_)
        | (with_reducible refine lenR_rsl ?_)
        | (with_reducible refine rowsR_sl ?_)
        | (with_reducible refine rowsR_nils ?_)
        | (with_reducible refine rowsR_rsl ?_)
        | (with_reducible refine lenR_slx ?_)
        | (with_reducible refine rowsR_slx ?_)
        | (with_reducible refine appendR_slx ?_ ?_ ?_)
        | (with_reducible refine bytesR_intro (by first | rfl | (simp only [bs_take, bs_drop, bs_append]; rfl)) ?_)
        | (with_reducible refine nthR_bs (by first | omega | (simp only [List.length_append, List.length_cons, List.length_nil, List.length_take, List.length_drop, bs_length]; omega)) (fun _ _ => ?_))
        | (with_reducible intro _))))
  all_goals (conv => whnf)
  all_goals (try dsimp only)
  rw [bs_length, lent_rows]
  repeat' (first
    | ((with_reducible refine Side.intro ?_) <;> (first | with_reducible rfl | omega | assumption | exact Nat.le_of_ble_eq_true rfl | (simp only [bs_length, List.length_append, List.length_cons, List.length_nil, List.length_take, List.length_drop, List.length_set, List.length_replicate]; omega) | exact .inl (by omega) | exact .inr (.inl ⟨rfl, by (simp only [bs_length, List.length_append, List.length_cons, List.length_nil, List.length_take, List.length_drop, List.length_set, List.length_replicate]; omega)⟩) | exact Ref.ok_refl _ _ | ((first | refine fresh_tup ?_ | skip); (repeat (first | exact FreshA.nils | exact FreshA.nilp | exact FreshA.int _ _ | exact FreshA.bool _ | exact FreshA.str _ | exact fresh_nil | refine fresh_cons ?_ ?_)); done) | exact rfl | (simp; done)))
    | ((conv => whnf) <;> (first
        | (with_reducible refine and_same ?_)
        | (with_reducible refine and_side ?_ ?_)
        | (with_reducible refine Br.yes (by omega) ?_)
        | (with_reducible refine Br.no (by omega) ?_)
        | (with_reducible refine Br.mk (fun _ => ?_) (fun _ => ?_))
        | (with_reducible refine Both.mk ?_ ?_)
        | ((with_reducible apply blkAt_intro) ; (focus (first | exact rfl | (repeat (first | assumption | exact get_new | exact get_set (by assumption) | exact get_set get_new | apply get_old | (apply get_set_ne; (focus (first | omega | (simp only [newB_length, List.length_set, List.length_append, List.length_singleton]; omega)))))); done)) ; (focus (first | rfl | assumption | omega)) ; (try dsimp only))
        | ((with_reducible apply appendR_lit) ; (focus (first | exact rfl | (repeat (first | assumption | exact get_new | exact get_set (by assumption) | exact get_set get_new | apply get_old | (apply get_set_ne; (focus (first | omega | (simp only [newB_length, List.length_set, List.length_append, List.length_singleton]; omega)))))); done)) ; (focus (first | rfl | assumption)) ; (focus rfl) ; (focus rfl) ; (focus rfl) ; (focus (first | exact Nat.zero_le _ | omega | (simp; done) | (simp; omega))) ; (try dsimp only))
        | (with_reducible refine appendR_nil ?_ ?_)
        | (with_reducible refine lenR_own (by assumption) ?_)
        | (with_reducible refine rowsR_own (by assumption) ?_)
        | (with_reducible refine lenR_sl ?_)
        | (with_reducible refine lenR_nils ?_)
        | (with_reducible refine lenR_rsl ?_)
        | (with_reducible refine rowsR_sl ?_)
        | (with_reducible refine rowsR_nils ?_)
        | (with_reducible refine rowsR_rsl ?_)
        | (with_reducible refine lenR_slx ?_)
        | (with_reducible refine rowsR_slx ?_)
        | (with_reducible refine appendR_slx ?_ ?_ ?_)
        | (with_reducible refine bytesR_intro (by first | rfl | (simp only [bs_take, bs_drop, bs_append]; rfl)) ?_)
        | (with_reducible refine nthR_bs (by first | omega | (simp only [List.length_append, List.length_cons, List.length_nil, List.length_take, List.length_drop, bs_length]; omega)) (fun _ _ => ?_))
        | (with_reducible intro _))))
  all_goals (conv => whnf)
  all_goals (try dsimp only)
  have e : (bs (s ++ [0])).set (0 + Int.toNat 0 + (s.length : Int).toNat) [.int .u8 77] = bs (s ++ [77]) := by
    have := bs_set (s ++ [0]) s.length 77
    simpa [Int.toNat_natCast] using this
  have e4 : ∀ (b b1 b2 : Blk), ((σ ++ [b]).set σ.length b1).set σ.length b2 = σ ++ [b2] := by
    intro b b1 b2
    simp
  unfold newB
  rw [e4]
  rw [e]
  exact h
theorem Kept_val (σ : AH) (s : List UInt8) (id gen : Nat) (sp : List UInt8) (fr : Bool) (hs : s.length ≤ 4611686018427) (hb : σ[id]? = some { sz := 1, els := bs (s ++ 77 :: sp), gen := gen, wr := true, pure := true }) (Q : AV → AH → Prop) (h : Q (.bool true) σ) : CallS Try.prog F.joistlaw01_Kept [.rsl id gen 0 s.length none, .sl 1 (bs s) fr] σ Q := by
  have hn := bs_length s
  refine call_of_body mixed fc_joistlaw01_Kept_ok (by simp [fc_joistlaw01_Kept]) ?_
  repeat' (first
    | ((with_reducible refine Side.intro ?_) <;> (first | with_reducible rfl | omega | assumption | exact Nat.le_of_ble_eq_true rfl | (simp only [bs_length, List.length_append, List.length_cons, List.length_nil, List.length_take, List.length_drop, List.length_set, List.length_replicate]; omega) | exact .inl (by omega) | exact .inr (.inl ⟨rfl, by (simp only [bs_length, List.length_append, List.length_cons, List.length_nil, List.length_take, List.length_drop, List.length_set, List.length_replicate]; omega)⟩) | exact Ref.ok_refl _ _ | ((first | refine fresh_tup ?_ | skip); (repeat (first | exact FreshA.nils | exact FreshA.nilp | exact FreshA.int _ _ | exact FreshA.bool _ | exact FreshA.str _ | exact fresh_nil | refine fresh_cons ?_ ?_)); done) | exact rfl | (simp; done)))
    | ((conv => whnf) <;> (first
        | (with_reducible refine and_same ?_)
        | (with_reducible refine and_side ?_ ?_)
        | (with_reducible refine Br.yes (by omega) ?_)
        | (with_reducible refine Br.no (by omega) ?_)
        | (with_reducible refine Br.mk (fun _ => ?_) (fun _ => ?_))
        | (with_reducible refine Both.mk ?_ ?_)
        | ((with_reducible apply blkAt_intro) ; (focus (first | exact rfl | (repeat (first | assumption | exact get_new | exact get_set (by assumption) | exact get_set get_new | apply get_old | (apply get_set_ne; (focus (first | omega | (simp only [newB_length, List.length_set, List.length_append, List.length_singleton]; omega)))))); done)) ; (focus (first | rfl | assumption | omega)) ; (try dsimp only))
        | ((with_reducible apply appendR_lit) ; (focus (first | exact rfl | (repeat (first | assumption | exact get_new | exact get_set (by assumption) | exact get_set get_new | apply get_old | (apply get_set_ne; (focus (first | omega | (simp only [newB_length, List.length_set, List.length_append, List.length_singleton]; omega)))))); done)) ; (focus (first | rfl | assumption)) ; (focus rfl) ; (focus rfl) ; (focus rfl) ; (focus (first | exact Nat.zero_le _ | omega | (simp; done) | (simp; omega))) ; (try dsimp only))
        | (with_reducible refine appendR_nil ?_ ?_)
        | (with_reducible refine lenR_own (by assumption) ?_)
        | (with_reducible refine rowsR_own (by assumption) ?_)
        | (with_reducible refine lenR_sl ?_)
        | (with_reducible refine lenR_nils ?_)
        | (with_reducible refine lenR_rsl ?_)
        | (with_reducible refine rowsR_sl ?_)
        | (with_reducible refine rowsR_nils ?_)
        | (with_reducible refine rowsR_rsl ?_)
        | (with_reducible refine lenR_slx ?_)
        | (with_reducible refine rowsR_slx ?_)
        | (with_reducible refine appendR_slx ?_ ?_ ?_)
        | (with_reducible refine bytesR_intro (by first | rfl | (simp only [bs_take, bs_drop, bs_append]; rfl)) ?_)
        | (with_reducible refine nthR_bs (by first | omega | (simp only [List.length_append, List.length_cons, List.length_nil, List.length_take, List.length_drop, bs_length]; omega)) (fun _ _ => ?_))
        | (with_reducible intro _))))
  all_goals (conv => whnf)
  all_goals (try dsimp only)
  · exact h
  · rename_i hx hne
    refine absurd ?_ hne
    simp only [bs_length, Int.toNat_natCast, Nat.zero_add] at hx
    simp at hx
    subst hx
    rfl
  · rename_i hne
    exact absurd (by simp) hne
theorem fits_ok (n i : Int) (s : List UInt8) : AOKn Try.prog F.lines_fits [.int .i64 n, .agg [.int .i64 i, .sl 1 (bs s) false]] fun y => y = .bool (decide (0 ≤ i ∧ i < n ∧ s.length = 64)) := by
  have hn := bs_length s
  unfold AOKn
  refine AOK.by_steps mixed fc_lines_fits_ok (by simp [fc_lines_fits]) ?_
  repeat' (first
    | ((with_reducible refine Side.intro ?_) <;> (first | with_reducible rfl | omega | assumption | exact Nat.le_of_ble_eq_true rfl | (simp only [bs_length, List.length_append, List.length_cons, List.length_nil, List.length_take, List.length_drop, List.length_set, List.length_replicate]; omega) | exact .inl (by omega) | exact .inr (.inl ⟨rfl, by (simp only [bs_length, List.length_append, List.length_cons, List.length_nil, List.length_take, List.length_drop, List.length_set, List.length_replicate]; omega)⟩) | exact Ref.ok_refl _ _ | ((first | refine fresh_tup ?_ | skip); (repeat (first | exact FreshA.nils | exact FreshA.nilp | exact FreshA.int _ _ | exact FreshA.bool _ | exact FreshA.str _ | exact fresh_nil | refine fresh_cons ?_ ?_)); done) | exact rfl | (simp; done)))
    | ((conv => whnf) <;> (first
        | (with_reducible refine and_same ?_)
        | (with_reducible refine and_side ?_ ?_)
        | (with_reducible refine Br.yes (by omega) ?_)
        | (with_reducible refine Br.no (by omega) ?_)
        | (with_reducible refine Br.mk (fun _ => ?_) (fun _ => ?_))
        | (with_reducible refine Both.mk ?_ ?_)
        | ((with_reducible apply blkAt_intro) ; (focus (first | exact rfl | (repeat (first | assumption | exact get_new | exact get_set (by assumption) | exact get_set get_new | apply get_old | (apply get_set_ne; (focus (first | omega | (simp only [newB_length, List.length_set, List.length_append, List.length_singleton]; omega)))))); done)) ; (focus (first | rfl | assumption | omega)) ; (try dsimp only))
        | ((with_reducible apply appendR_lit) ; (focus (first | exact rfl | (repeat (first | assumption | exact get_new | exact get_set (by assumption) | exact get_set get_new | apply get_old | (apply get_set_ne; (focus (first | omega | (simp only [newB_length, List.length_set, List.length_append, List.length_singleton]; omega)))))); done)) ; (focus (first | rfl | assumption)) ; (focus rfl) ; (focus rfl) ; (focus rfl) ; (focus (first | exact Nat.zero_le _ | omega | (simp; done) | (simp; omega))) ; (try dsimp only))
        | (with_reducible refine appendR_nil ?_ ?_)
        | (with_reducible refine lenR_own (by assumption) ?_)
        | (with_reducible refine rowsR_own (by assumption) ?_)
        | (with_reducible refine lenR_sl ?_)
        | (with_reducible refine lenR_nils ?_)
        | (with_reducible refine lenR_rsl ?_)
        | (with_reducible refine rowsR_sl ?_)
        | (with_reducible refine rowsR_nils ?_)
        | (with_reducible refine rowsR_rsl ?_)
        | (with_reducible refine lenR_slx ?_)
        | (with_reducible refine rowsR_slx ?_)
        | (with_reducible refine appendR_slx ?_ ?_ ?_)
        | (with_reducible refine bytesR_intro (by first | rfl | (simp only [bs_take, bs_drop, bs_append]; rfl)) ?_)
        | (with_reducible refine nthR_bs (by first | omega | (simp only [List.length_append, List.length_cons, List.length_nil, List.length_take, List.length_drop, bs_length]; omega)) (fun _ _ => ?_))
        | (with_reducible intro _))))
  all_goals (conv => whnf)
  all_goals (try dsimp only)
  all_goals exact ⟨_, .one (.refl _), by simp; omega⟩
end Go.Proofs.Ytlhogahibillpaa
