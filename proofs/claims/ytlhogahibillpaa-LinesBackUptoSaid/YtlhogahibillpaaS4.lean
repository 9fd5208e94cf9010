import Derived.Test.YtlhogahibillpaaI
import Derived.Test.YtlhogahibillpaaVI
namespace Go.Proofs.Ytlhogahibillpaa
open Go Go.Proofs.Ytlhogahibillpaa.V
set_option maxRecDepth 20000
attribute [local irreducible] CallS AOK AOKn ALoop Side Ref.ok
theorem line_val (σ : AH) (s : List UInt8) (fr : Bool) (i : Int) (h0 : 0 ≤ i) (h1 : (i+1)*64 ≤ s.length) (hl: s.length ≤ 4611686018427387904) (Q : AV → AH → Prop) (h : Q (.sl 1 (bs ((s.take ((i+1)*64).toNat).drop (i*64).toNat)) fr) σ) : CallS Try.prog F.lines_line [.sl 1 (bs s) fr, .int .i64 i] σ Q := by
  have hn := bs_length s
  refine call_of_body mixed fc_lines_line_ok (by simp [fc_lines_line]) ?_
  repeat' (first
    | ((with_reducible refine Side.intro ?_) <;> (first | with_reducible rfl | omega | assumption | exact Nat.le_of_ble_eq_true rfl | (simp only [bs_length, List.length_append, List.length_cons, List.length_nil, List.length_take, List.length_drop, List.length_set, List.length_replicate]; omega) | exact .inl (by omega) | exact .inr (.inl ⟨rfl, by (simp only [bs_length, List.length_append, List.length_cons, List.length_nil, List.length_take, List.length_drop, List.length_set, List.length_replicate]; omega)⟩) | exact Ref.ok_refl _ _ | ((first | refine fresh_tup ?_ | skip); (repeat (first | exact FreshA.nils | exact FreshA.nilp | exact FreshA.int _ _ | exact FreshA.bool _ | exact FreshA.str _ | exact fresh_nil | refine fresh_cons ?_ ?_)); done) | exact rfl | (simp; done)))
    | ((conv => whnf) <;> (first
        | (with_reducible refine and_same ?_)
        | (with_reducible refine and_side ?_ ?_)
        | (with_reducible refine Br.yes (by omega) ?_)
        | (with_reducible refine Br.no (by omega) ?_)
        | (with_reducible refine Br.mk (fun _ => ?_) (fun _ => ?_))
        | (with_reducible refine Both.mk ?_ ?_)
        | ((with_reducible apply blkAt_intro) ; (focus (first | exact rfl | (repeat (first | assumption | exact get_new | exact get_set (by assumption) | exact get_set get_new | apply get_old | (apply get_set_ne; (focus (first | omega | (simp only [newB_length, List.length_set, List.length_append, List.length_singleton]; omega)))))); done)) ; (focus (first | rfl | assumption | omega)) ; (try dsimp only))
        | ((with_reducible apply appendR_lit) ; (focus (first | exact rfl | (repeat (first | assumption | exact get_new | exact get_set (by assumption) | exact get_set get_new | apply get_old | (apply get_set_ne; (focus (first | omega | (simp only [newB_length, List.length_set, List.length_append, List.length_singleton]; omega)))))); done)) ; (focus (first | rfl | assumption)) ; (focus rfl) ; (focus rfl) ; (focus rfl) ; (focus (first | exact Nat.zero_le _ | omega | (simp; done) | (simp; omega))) ; (try dsimp only))
        | (with_reducible refine appendR_nil ?_ ?_)
        | (with_reducible refine lenR_own (by assumption) ?_)
        | (with_reducible refine rowsR_own (by assumption) ?_)
        | (with_reducible refine lenR_sl ?_)
        | (with_reducible refine lenR_nils ?_)
        | (with_reducible refine lenR_rsl ?_)
        | (with_reducible refine rowsR_sl ?_)
        | (with_reducible refine rowsR_nils ?_)
        | (with_reducible refine rowsR_rsl ?_)
        | (with_reducible refine lenR_slx ?_)
        | (with_reducible refine rowsR_slx ?_)
        | (with_reducible refine appendR_slx ?_ ?_ ?_)
        | (with_reducible refine bytesR_intro (by first | rfl | (simp only [bs_take, bs_drop, bs_append]; rfl)) ?_)
        | (with_reducible refine nthR_bs (by first | omega | (simp only [List.length_append, List.length_cons, List.length_nil, List.length_take, List.length_drop, bs_length]; omega)) (fun _ _ => ?_))
        | (with_reducible intro _))))
  all_goals (conv => whnf)
  all_goals (try dsimp only)
  simpa only [packA, bs_take, bs_drop] using h
theorem bytes_Equal_val (σ : AH) (a b : Bool) (s t : List UInt8) (Q : AV → AH → Prop) (h1 : s = t → Q (.bool true) σ) (h2 : s ≠ t → Q (.bool false) σ) : CallS Try.prog F.bytes_Equal [.sl 1 (bs s) a, .sl 1 (bs t) b] σ Q := by
  refine call_of_body mixed fc_bytes_Equal_ok (by simp [fc_bytes_Equal]) ?_
  repeat' (first
    | ((with_reducible refine Side.intro ?_) <;> (first | with_reducible rfl | omega | assumption | exact Nat.le_of_ble_eq_true rfl | (simp only [bs_length, List.length_append, List.length_cons, List.length_nil, List.length_take, List.length_drop, List.length_set, List.length_replicate]; omega) | exact .inl (by omega) | exact .inr (.inl ⟨rfl, by (simp only [bs_length, List.length_append, List.length_cons, List.length_nil, List.length_take, List.length_drop, List.length_set, List.length_replicate]; omega)⟩) | exact Ref.ok_refl _ _ | ((first | refine fresh_tup ?_ | skip); (repeat (first | exact FreshA.nils | exact FreshA.nilp | exact FreshA.int _ _ | exact FreshA.bool _ | exact FreshA.str _ | exact fresh_nil | refine fresh_cons ?_ ?_)); done) | exact rfl | (simp; done)))
    | ((conv => whnf) <;> (first
        | (with_reducible refine and_same ?_)
        | (with_reducible refine and_side ?_ ?_)
        | (with_reducible refine Br.yes (by omega) ?_)
        | (with_reducible refine Br.no (by omega) ?_)
        | (with_reducible refine Br.mk (fun _ => ?_) (fun _ => ?_))
        | (with_reducible refine Both.mk ?_ ?_)
        | ((with_reducible apply blkAt_intro) ; (focus (first | exact rfl | (repeat (first | assumption | exact get_new | exact get_set (by assumption) | exact get_set get_new | apply get_old | (apply get_set_ne; (focus (first | omega | (simp only [newB_length, List.length_set, List.length_append, List.length_singleton]; omega)))))); done)) ; (focus (first | rfl | assumption | omega)) ; (try dsimp only))
        | ((with_reducible apply appendR_lit) ; (focus (first | exact rfl | (repeat (first | assumption | exact get_new | exact get_set (by assumption) | exact get_set get_new | apply get_old | (apply get_set_ne; (focus (first | omega | (simp only [newB_length, List.length_set, List.length_append, List.length_singleton]; omega)))))); done)) ; (focus (first | rfl | assumption)) ; (focus rfl) ; (focus rfl) ; (focus rfl) ; (focus (first | exact Nat.zero_le _ | omega | (simp; done) | (simp; omega))) ; (try dsimp only))
        | (with_reducible refine appendR_nil ?_ ?_)
        | (with_reducible refine lenR_own (by assumption) ?_)
        | (with_reducible refine rowsR_own (by assumption) ?_)
        | (with_reducible refine lenR_sl ?_)
        | (with_reducible refine lenR_nils ?_)
        | (with_reducible refine lenR_rsl ?_)
        | (with_reducible refine rowsR_sl ?_)
        | (with_reducible refine rowsR_nils ?_)
        | (with_reducible refine rowsR_rsl ?_)
        | (with_reducible refine lenR_slx ?_)
        | (with_reducible refine rowsR_slx ?_)
        | (with_reducible refine appendR_slx ?_ ?_ ?_)
        | (with_reducible refine bytesR_intro (by first | rfl | (simp only [bs_take, bs_drop, bs_append]; rfl)) ?_)
        | (with_reducible refine nthR_bs (by first | omega | (simp only [List.length_append, List.length_cons, List.length_nil, List.length_take, List.length_drop, bs_length]; omega)) (fun _ _ => ?_))
        | (with_reducible intro _))))
  all_goals (conv => whnf)
  all_goals (try dsimp only)
  · exact h1 ‹_›
  · exact h2 ‹_›
theorem fresh_bs (s : List UInt8) : FreshR (.sl 1 (bs s) true) := FreshA.sl _ _ FreshA_bs
theorem bytes_Clone_ok (s : List UInt8) (hl : s.length ≤ 4611686018427) : AOKn Try.prog F.bytes_Clone [.sl 1 (bs s) false] fun y => y = .sl 1 (bs s) true := by
  have hn := bs_length s
  unfold AOKn
  refine AOK.by_steps mixed fc_bytes_Clone_ok (by simp [fc_bytes_Clone]) ?_
  repeat' (first
    | ((with_reducible refine Side.intro ?_) <;> (first | with_reducible rfl | omega | assumption | exact Nat.le_of_ble_eq_true rfl | (simp only [bs_length, List.length_append, List.length_cons, List.length_nil, List.length_take, List.length_drop, List.length_set, List.length_replicate]; omega) | exact .inl (by omega) | exact .inr (.inl ⟨rfl, by (simp only [bs_length, List.length_append, List.length_cons, List.length_nil, List.length_take, List.length_drop, List.length_set, List.length_replicate]; omega)⟩) | exact Ref.ok_refl _ _ | ((first | refine fresh_tup ?_ | skip); (repeat (first | exact FreshA.nils | exact FreshA.nilp | exact FreshA.int _ _ | exact FreshA.bool _ | exact FreshA.str _ | exact fresh_nil | refine fresh_cons ?_ ?_)); done) | exact rfl | (simp; done)))
    | ((conv => whnf) <;> (first
        | (with_reducible refine and_same ?_)
        | (with_reducible refine and_side ?_ ?_)
        | (with_reducible refine Br.yes (by omega) ?_)
        | (with_reducible refine Br.no (by omega) ?_)
        | (with_reducible refine Br.mk (fun _ => ?_) (fun _ => ?_))
        | (with_reducible refine Both.mk ?_ ?_)
        | ((with_reducible apply blkAt_intro) ; (focus (first | exact rfl | (repeat (first | assumption | exact get_new | exact get_set (by assumption) | exact get_set get_new | apply get_old | (apply get_set_ne; (focus (first | omega | (simp only [newB_length, List.length_set, List.length_append, List.length_singleton]; omega)))))); done)) ; (focus (first | rfl | assumption | omega)) ; (try dsimp only))
        | ((with_reducible apply appendR_lit) ; (focus (first | exact rfl | (repeat (first | assumption | exact get_new | exact get_set (by assumption) | exact get_set get_new | apply get_old | (apply get_set_ne; (focus (first | omega | (simp only [newB_length, List.length_set, List.length_append, List.length_singleton]; omega)))))); done)) ; (focus (first | rfl | assumption)) ; (focus rfl) ; (focus rfl) ; (focus rfl) ; (focus (first | exact Nat.zero_le _ | omega | (simp; done) | (simp; omega))) ; (try dsimp only))
        | (with_reducible refine appendR_nil ?_ ?_)
        | (with_reducible refine lenR_own (by assumption) ?_)
        | (with_reducible refine rowsR_own (by assumption) ?_)
        | (with_reducible refine lenR_sl ?_)
        | (with_reducible refine lenR_nils ?_)
        | (with_reducible refine lenR_rsl ?_)
        | (with_reducible refine rowsR_sl ?_)
        | (with_reducible refine rowsR_nils ?_)
        | (with_reducible refine rowsR_rsl ?_)
        | (with_reducible refine lenR_slx ?_)
        | (with_reducible refine rowsR_slx ?_)
        | (with_reducible refine appendR_slx ?_ ?_ ?_)
        | (with_reducible refine bytesR_intro (by first | rfl | (simp only [bs_take, bs_drop, bs_append]; rfl)) ?_)
        | (with_reducible refine nthR_bs (by first | omega | (simp only [List.length_append, List.length_cons, List.length_nil, List.length_take, List.length_drop, bs_length]; omega)) (fun _ _ => ?_))
        | (with_reducible intro _))))
  all_goals (conv => whnf)
  all_goals (try dsimp only)
  · exact ⟨_, .one (.refl _), by simp⟩
  · simp only [List.take_zero, List.nil_append, Nat.zero_add, List.take_length]; exact Side.intro (fresh_bs s)
  · rename_i h
    rw [h]
    exact ⟨_, .one (.nil _ _), rfl⟩
  · exact ⟨_, .one (.refl _), by simp⟩
  · simp only [List.take_zero, List.nil_append, Nat.zero_add, List.take_length]; exact Side.intro (fresh_bs s)
def ln (s : List UInt8) (i : Nat) : List UInt8 := (s.take ((i+1)*64)).drop (i*64)
def diffs (s t : List UInt8) (n : Nat) : List (Int × List UInt8) := ((List.range n).filter fun i => ln s i ≠ ln t i).map fun i => (Int.ofNat i, ln t i)
def chg (fr : Bool) (l : List (Int × List UInt8)) : List (List AV) := l.map fun p => [.int .i64 p.1, .sl 1 (bs p.2) fr]
theorem chg_length (fr : Bool) (l : List (Int × List UInt8)) : (chg fr l).length = l.length := by simp [chg]
theorem chg_append (fr : Bool) (l m : List (Int × List UInt8)) : chg fr (l ++ m) = chg fr l ++ chg fr m := by simp [chg]
theorem fresh_chg (l : List (Int × List UInt8)) : FreshE (.sl 2 (chg true l) true) := by
  refine FreshA.sl _ _ fun x hx => ?_
  simp only [chg, List.mem_flatten, List.mem_map] at hx
  obtain ⟨r, ⟨p, _, rfl⟩, hx⟩ := hx
  simp only [List.mem_cons, List.not_mem_nil, or_false] at hx
  rcases hx with rfl | rfl
  · exact .int _ _
  · exact .sl _ _ FreshA_bs
theorem chg_nil {fr : Bool} {l : List (Int × List UInt8)} (h : chg fr l = []) : l = [] := by
  simpa [chg] using h
theorem diffs_succ (s t : List UInt8) (n : Nat) : diffs s t (n + 1) = diffs s t n ++ (if ln s n ≠ ln t n then [(Int.ofNat n, ln t n)] else []) := by
  unfold diffs
  rw [List.range_succ, List.filter_append, List.map_append]
  congr 1
  by_cases h : ln s n = ln t n <;> simp [h]
theorem diffs_le (s t : List UInt8) : ∀ n, (diffs s t n).length ≤ n := fun n => by
  unfold diffs
  rw [List.length_map]
  exact Nat.le_trans (List.length_filter_le _ _) (by simp)
section
theorem lines_Diff_ok (s t : List UInt8) (hs : s.length ≤ 4611686018427) (ht : t.length ≤ 4611686018427) : AOKn Try.prog F.lines_Diff [.sl 1 (bs s) false, .sl 1 (bs t) false]
    fun y => y = if s.length ≠ t.length ∨ s.length % 64 ≠ 0 then .tup [.nils, .int .i64 1] else .tup [.sl 2 (chg true (diffs s t (s.length / 64))) true, .int .i64 0] := by
  have hn := bs_length s
  have hm := bs_length t
  unfold AOKn
  refine AOK.by_steps mixed fc_lines_Diff_ok (by simp [fc_lines_Diff]) ?_
  repeat' (first
    | ((with_reducible refine Side.intro ?_) <;> (first | with_reducible rfl | omega | assumption | exact Nat.le_of_ble_eq_true rfl | (simp only [bs_length, List.length_append, List.length_cons, List.length_nil, List.length_take, List.length_drop, List.length_set, List.length_replicate]; omega) | exact .inl (by omega) | exact .inr (.inl ⟨rfl, by (simp only [bs_length, List.length_append, List.length_cons, List.length_nil, List.length_take, List.length_drop, List.length_set, List.length_replicate]; omega)⟩) | exact Ref.ok_refl _ _ | ((first | refine fresh_tup ?_ | skip); (repeat (first | exact FreshA.nils | exact FreshA.nilp | exact FreshA.int _ _ | exact FreshA.bool _ | exact FreshA.str _ | exact fresh_nil | refine fresh_cons ?_ ?_)); done) | exact rfl | (simp; done)))
    | ((conv => whnf) <;> (first
        | (with_reducible refine and_same ?_)
        | (with_reducible refine and_side ?_ ?_)
        | (with_reducible refine Br.yes (by omega) ?_)
        | (with_reducible refine Br.no (by omega) ?_)
        | (with_reducible refine Br.mk (fun _ => ?_) (fun _ => ?_))
        | (with_reducible refine Both.mk ?_ ?_)
        | ((with_reducible apply blkAt_intro) ; (focus (first | exact rfl | (repeat (first | assumption | exact get_new | exact get_set (by assumption) | exact get_set get_new | apply get_old | (apply get_set_ne; (focus (first | omega | (simp only [newB_length, List.length_set, List.length_append, List.length_singleton]; omega)))))); done)) ; (focus (first | rfl | assumption | omega)) ; (try dsimp only))
        | ((with_reducible apply appendR_lit) ; (focus (first | exact rfl | (repeat (first | assumption | exact get_new | exact get_set (by assumption) | exact get_set get_new | apply get_old | (apply get_set_ne; (focus (first | omega | (simp only [newB_length, List.length_set, List.length_append, List.length_singleton]; omega)))))); done)) ; (focus (first | rfl | assumption)) ; (focus rfl) ; (focus rfl) ; (focus rfl) ; (focus (first | exact Nat.zero_le _ | omega | (simp; done) | (simp; omega))) ; (try dsimp only))
        | (with_reducible refine appendR_nil ?_ ?_)
        | (with_reducible refine lenR_own (by assumption) ?_)
        | (with_reducible refine rowsR_own (by assumption) ?_)
        | (with_reducible refine lenR_sl ?_)
        | (with_reducible refine lenR_nils ?_)
        | (with_reducible refine lenR_rsl ?_)
        | (with_reducible refine rowsR_sl ?_)
        | (with_reducible refine rowsR_nils ?_)
        | (with_reducible refine rowsR_rsl ?_)
        | (with_reducible refine lenR_slx ?_)
        | (with_reducible refine rowsR_slx ?_)
        | (with_reducible refine appendR_slx ?_ ?_ ?_)
        | (with_reducible refine bytesR_intro (by first | rfl | (simp only [bs_take, bs_drop, bs_append]; rfl)) ?_)
        | (with_reducible refine nthR_bs (by first | omega | (simp only [List.length_append, List.length_cons, List.length_nil, List.length_take, List.length_drop, bs_length]; omega)) (fun _ _ => ?_))
        | (with_reducible intro _))))
  all_goals (conv => whnf)
  all_goals (try dsimp only)
  · rename_i h
    exact ⟨_, .one (.refl _), by rw [if_pos (.inl (by omega))]⟩
  · rename_i h
    exact ⟨_, .one (.refl _), by rw [if_pos (.inr (by omega))]⟩
  · refine loop_by (α := Nat × AH × AV) (fun a => [(0, .sl 1 (bs s) false), (1, .sl 1 (bs t) false), (6, a.2.2), (22, .int .i64 (((bs s).length:Int)/64)), (23, .int .i64 a.1)]) (fun a => a.2.1)
      (fun a => a.1 ≤ s.length/64 ∧ Own a.2.1 2 a.2.2 (chg true (diffs s t a.1))) (fun a => s.length/64 - a.1) ?_ (0, [], .nils) ⟨by omega, Own.nil _ _⟩ rfl rfl
    rintro ⟨i, σ, acc⟩ ⟨hi, hacc⟩
    dsimp only at hi hacc ⊢
    repeat' (first
      | ((with_reducible refine Side.intro ?_) <;> (first | with_reducible rfl | omega | assumption | exact Nat.le_of_ble_eq_true rfl | (simp only [bs_length, List.length_append, List.length_cons, List.length_nil, List.length_take, List.length_drop, List.length_set, List.length_replicate]; omega) | exact .inl (by omega) | exact .inr (.inl ⟨rfl, by (simp only [bs_length, List.length_append, List.length_cons, List.length_nil, List.length_take, List.length_drop, List.length_set, List.length_replicate]; omega)⟩) | exact Ref.ok_refl _ _ | ((first | refine fresh_tup ?_ | skip); (repeat (first | exact FreshA.nils | exact FreshA.nilp | exact FreshA.int _ _ | exact FreshA.bool _ | exact FreshA.str _ | exact fresh_nil | refine fresh_cons ?_ ?_)); done) | exact rfl | (simp; done)))
      | ((conv => whnf) <;> (first
          | (with_reducible refine and_same ?_)
          | (with_reducible refine and_side ?_ ?_)
          | (with_reducible refine Br.yes (by omega) ?_)
          | (with_reducible refine Br.no (by omega) ?_)
          | (with_reducible refine Br.mk (fun _ => ?_) (fun _ => ?_))
          | (with_reducible refine Both.mk ?_ ?_)
          | ((with_reducible apply blkAt_intro) ; (focus (first | exact rfl | (repeat (first | assumption | exact get_new | exact get_set (by assumption) | exact get_set get_new | apply get_old | (apply get_set_ne; (focus (first | omega | (simp only [newB_length, List.length_set, List.length_append, List.length_singleton]; omega)))))); done)) ; (focus (first | rfl | assumption | omega)) ; (try dsimp only))
          | ((with_reducible apply appendR_lit) ; (focus (first | exact rfl | (repeat (first | assumption | exact get_new | exact get_set (by assumption) | exact get_set get_new | apply get_old | (apply get_set_ne; (focus (first | omega | (simp only [newB_length, List.length_set, List.length_append, List.length_singleton]; omega)))))); done)) ; (focus (first | rfl | assumption)) ; (focus rfl) ; (focus rfl) ; (focus rfl) ; (focus (first | exact Nat.zero_le _ | omega | (simp; done) | (simp; omega))) ; (try dsimp only))
          | (with_reducible refine appendR_nil ?_ ?_)
          | (with_reducible refine lenR_own (by assumption) ?_)
          | (with_reducible refine rowsR_own (by assumption) ?_)
          | (with_reducible refine lenR_sl ?_)
          | (with_reducible refine lenR_nils ?_)
          | (with_reducible refine lenR_rsl ?_)
          | (with_reducible refine rowsR_sl ?_)
          | (with_reducible refine rowsR_nils ?_)
          | (with_reducible refine rowsR_rsl ?_)
          | (with_reducible refine lenR_slx ?_)
          | (with_reducible refine rowsR_slx ?_)
          | (with_reducible refine appendR_slx ?_ ?_ ?_)
          | (with_reducible refine bytesR_intro (by first | rfl | (simp only [bs_take, bs_drop, bs_append]; rfl)) ?_)
          | (with_reducible refine nthR_bs (by first | omega | (simp only [List.length_append, List.length_cons, List.length_nil, List.length_take, List.length_drop, bs_length]; omega)) (fun _ _ => ?_))
          | (with_reducible intro _))))
    all_goals (conv => whnf)
    all_goals (try dsimp only)
    · refine line_val _ t false i (by omega) (by omega) (by omega) _ ?_
      repeat' (first
        | ((with_reducible refine Side.intro ?_) <;> (first | with_reducible rfl | omega | assumption | exact Nat.le_of_ble_eq_true rfl | (simp only [bs_length, List.length_append, List.length_cons, List.length_nil, List.length_take, List.length_drop, List.length_set, List.length_replicate]; omega) | exact .inl (by omega) | exact .inr (.inl ⟨rfl, by (simp only [bs_length, List.length_append, List.length_cons, List.length_nil, List.length_take, List.length_drop, List.length_set, List.length_replicate]; omega)⟩) | exact Ref.ok_refl _ _ | ((first | refine fresh_tup ?_ | skip); (repeat (first | exact FreshA.nils | exact FreshA.nilp | exact FreshA.int _ _ | exact FreshA.bool _ | exact FreshA.str _ | exact fresh_nil | refine fresh_cons ?_ ?_)); done) | exact rfl | (simp; done)))
        | ((conv => whnf) <;> (first
            | (with_reducible refine and_same ?_)
            | (with_reducible refine and_side ?_ ?_)
            | (with_reducible refine Br.yes (by omega) ?_)
            | (with_reducible refine Br.no (by omega) ?_)
            | (with_reducible refine Br.mk (fun _ => ?_) (fun _ => ?_))
            | (with_reducible refine Both.mk ?_ ?_)
            | ((with_reducible apply blkAt_intro) ; (focus (first | exact rfl | (repeat (first | assumption | exact get_new | exact get_set (by assumption) | exact get_set get_new | apply get_old | (apply get_set_ne; (focus (first | omega | (simp only [newB_length, List.length_set, List.length_append, List.length_singleton]; omega)))))); done)) ; (focus (first | rfl | assumption | omega)) ; (try dsimp only))
            | ((with_reducible apply appendR_lit) ; (focus (first | exact rfl | (repeat (first | assumption | exact get_new | exact get_set (by assumption) | exact get_set get_new | apply get_old | (apply get_set_ne; (focus (first | omega | (simp only [newB_length, List.length_set, List.length_append, List.length_singleton]; omega)))))); done)) ; (focus (first | rfl | assumption)) ; (focus rfl) ; (focus rfl) ; (focus rfl) ; (focus (first | exact Nat.zero_le _ | omega | (simp; done) | (simp; omega))) ; (try dsimp only))
            | (with_reducible refine appendR_nil ?_ ?_)
            | (with_reducible refine lenR_own (by assumption) ?_)
            | (with_reducible refine rowsR_own (by assumption) ?_)
            | (with_reducible refine lenR_sl ?_)
            | (with_reducible refine lenR_nils ?_)
            | (with_reducible refine lenR_rsl ?_)
            | (with_reducible refine rowsR_sl ?_)
            | (with_reducible refine rowsR_nils ?_)
            | (with_reducible refine rowsR_rsl ?_)
            | (with_reducible refine lenR_slx ?_)
            | (with_reducible refine rowsR_slx ?_)
            | (with_reducible refine appendR_slx ?_ ?_ ?_)
            | (with_reducible refine bytesR_intro (by first | rfl | (simp only [bs_take, bs_drop, bs_append]; rfl)) ?_)
            | (with_reducible refine nthR_bs (by first | omega | (simp only [List.length_append, List.length_cons, List.length_nil, List.length_take, List.length_drop, bs_length]; omega)) (fun _ _ => ?_))
            | (with_reducible intro _))))
      all_goals (conv => whnf)
      all_goals (try dsimp only)
      refine line_val _ s false i (by omega) (by omega) (by omega) _ ?_
      repeat' (first
        | ((with_reducible refine Side.intro ?_) <;> (first | with_reducible rfl | omega | assumption | exact Nat.le_of_ble_eq_true rfl | (simp only [bs_length, List.length_append, List.length_cons, List.length_nil, List.length_take, List.length_drop, List.length_set, List.length_replicate]; omega) | exact .inl (by omega) | exact .inr (.inl ⟨rfl, by (simp only [bs_length, List.length_append, List.length_cons, List.length_nil, List.length_take, List.length_drop, List.length_set, List.length_replicate]; omega)⟩) | exact Ref.ok_refl _ _ | ((first | refine fresh_tup ?_ | skip); (repeat (first | exact FreshA.nils | exact FreshA.nilp | exact FreshA.int _ _ | exact FreshA.bool _ | exact FreshA.str _ | exact fresh_nil | refine fresh_cons ?_ ?_)); done) | exact rfl | (simp; done)))
        | ((conv => whnf) <;> (first
            | (with_reducible refine and_same ?_)
            | (with_reducible refine and_side ?_ ?_)
            | (with_reducible refine Br.yes (by omega) ?_)
            | (with_reducible refine Br.no (by omega) ?_)
            | (with_reducible refine Br.mk (fun _ => ?_) (fun _ => ?_))
            | (with_reducible refine Both.mk ?_ ?_)
            | ((with_reducible apply blkAt_intro) ; (focus (first | exact rfl | (repeat (first | assumption | exact get_new | exact get_set (by assumption) | exact get_set get_new | apply get_old | (apply get_set_ne; (focus (first | omega | (simp only [newB_length, List.length_set, List.length_append, List.length_singleton]; omega)))))); done)) ; (focus (first | rfl | assumption | omega)) ; (try dsimp only))
            | ((with_reducible apply appendR_lit) ; (focus (first | exact rfl | (repeat (first | assumption | exact get_new | exact get_set (by assumption) | exact get_set get_new | apply get_old | (apply get_set_ne; (focus (first | omega | (simp only [newB_length, List.length_set, List.length_append, List.length_singleton]; omega)))))); done)) ; (focus (first | rfl | assumption)) ; (focus rfl) ; (focus rfl) ; (focus rfl) ; (focus (first | exact Nat.zero_le _ | omega | (simp; done) | (simp; omega))) ; (try dsimp only))
            | (with_reducible refine appendR_nil ?_ ?_)
            | (with_reducible refine lenR_own (by assumption) ?_)
            | (with_reducible refine rowsR_own (by assumption) ?_)
            | (with_reducible refine lenR_sl ?_)
            | (with_reducible refine lenR_nils ?_)
            | (with_reducible refine lenR_rsl ?_)
            | (with_reducible refine rowsR_sl ?_)
            | (with_reducible refine rowsR_nils ?_)
            | (with_reducible refine rowsR_rsl ?_)
            | (with_reducible refine lenR_slx ?_)
            | (with_reducible refine rowsR_slx ?_)
            | (with_reducible refine appendR_slx ?_ ?_ ?_)
            | (with_reducible refine bytesR_intro (by first | rfl | (simp only [bs_take, bs_drop, bs_append]; rfl)) ?_)
            | (with_reducible refine nthR_bs (by first | omega | (simp only [List.length_append, List.length_cons, List.length_nil, List.length_take, List.length_drop, bs_length]; omega)) (fun _ _ => ?_))
            | (with_reducible intro _))))
      all_goals (conv => whnf)
      all_goals (try dsimp only)
      refine bytes_Equal_val _ _ _ _ _ _ (fun he => ?_) (fun he => ?_)
      · repeat' (first
          | ((with_reducible refine Side.intro ?_) <;> (first | with_reducible rfl | omega | assumption | exact Nat.le_of_ble_eq_true rfl | (simp only [bs_length, List.length_append, List.length_cons, List.length_nil, List.length_take, List.length_drop, List.length_set, List.length_replicate]; omega) | exact .inl (by omega) | exact .inr (.inl ⟨rfl, by (simp only [bs_length, List.length_append, List.length_cons, List.length_nil, List.length_take, List.length_drop, List.length_set, List.length_replicate]; omega)⟩) | exact Ref.ok_refl _ _ | ((first | refine fresh_tup ?_ | skip); (repeat (first | exact FreshA.nils | exact FreshA.nilp | exact FreshA.int _ _ | exact FreshA.bool _ | exact FreshA.str _ | exact fresh_nil | refine fresh_cons ?_ ?_)); done) | exact rfl | (simp; done)))
          | ((conv => whnf) <;> (first
              | (with_reducible refine and_same ?_)
              | (with_reducible refine and_side ?_ ?_)
              | (with_reducible refine Br.yes (by omega) ?_)
              | (with_reducible refine Br.no (by omega) ?_)
              | (with_reducible refine Br.mk (fun _ => ?_) (fun _ => ?_))
              | (with_reducible refine Both.mk ?_ ?_)
              | ((with_reducible apply blkAt_intro) ; (focus (first | exact rfl | (repeat (first | assumption | exact get_new | exact get_set (by assumption) | exact get_set get_new | apply get_old | (apply get_set_ne; (focus (first | omega | (simp only [newB_length, List.length_set, List.length_append, List.length_singleton]; omega)))))); done)) ; (focus (first | rfl | assumption | omega)) ; (try dsimp only))
              | ((with_reducible apply appendR_lit) ; (focus (first | exact rfl | (repeat (first | assumption | exact get_new | exact get_set (by assumption) | exact get_set get_new | apply get_old | (apply get_set_ne; (focus (first | omega | (simp only [newB_length, List.length_set, List.length_append, List.length_singleton]; omega)))))); done)) ; (focus (first | rfl | assumption)) ; (focus rfl) ; (focus rfl) ; (focus rfl) ; (focus (first | exact Nat.zero_le _ | omega | (simp; done) | (simp; omega))) ; (try dsimp only))
              | (with_reducible refine appendR_nil ?_ ?_)
              | (with_reducible refine lenR_own (by assumption) ?_)
              | (with_reducible refine rowsR_own (by assumption) ?_)
              | (with_reducible refine lenR_sl ?_)
              | (with_reducible refine lenR_nils ?_)
              | (with_reducible refine lenR_rsl ?_)
              | (with_reducible refine rowsR_sl ?_)
              | (with_reducible refine rowsR_nils ?_)
              | (with_reducible refine rowsR_rsl ?_)
              | (with_reducible refine lenR_slx ?_)
              | (with_reducible refine rowsR_slx ?_)
              | (with_reducible refine appendR_slx ?_ ?_ ?_)
              | (with_reducible refine bytesR_intro (by first | rfl | (simp only [bs_take, bs_drop, bs_append]; rfl)) ?_)
              | (with_reducible refine nthR_bs (by first | omega | (simp only [List.length_append, List.length_cons, List.length_nil, List.length_take, List.length_drop, bs_length]; omega)) (fun _ _ => ?_))
              | (with_reducible intro _))))
        all_goals (conv => whnf)
        all_goals (try dsimp only)
        refine ⟨(i + 1, σ, acc), rfl, rfl, ⟨by omega, ?_⟩, by omega⟩
        have he' : ln s i = ln t i := by
          have e1 : ((i : Int) * 64).toNat = i * 64 := by omega
          have e2 : (((i : Int) + 1) * 64).toNat = (i + 1) * 64 := by omega
          rw [e1, e2] at he
          exact he
        dsimp only
        rw [diffs_succ, if_neg (by simpa using he'), List.append_nil]
        exact hacc
      · repeat' (first
          | ((with_reducible refine Side.intro ?_) <;> (first | with_reducible rfl | omega | assumption | exact Nat.le_of_ble_eq_true rfl | (simp only [bs_length, List.length_append, List.length_cons, List.length_nil, List.length_take, List.length_drop, List.length_set, List.length_replicate]; omega) | exact .inl (by omega) | exact .inr (.inl ⟨rfl, by (simp only [bs_length, List.length_append, List.length_cons, List.length_nil, List.length_take, List.length_drop, List.length_set, List.length_replicate]; omega)⟩) | exact Ref.ok_refl _ _ | ((first | refine fresh_tup ?_ | skip); (repeat (first | exact FreshA.nils | exact FreshA.nilp | exact FreshA.int _ _ | exact FreshA.bool _ | exact FreshA.str _ | exact fresh_nil | refine fresh_cons ?_ ?_)); done) | exact rfl | (simp; done)))
          | ((conv => whnf) <;> (first
              | (with_reducible refine and_same ?_)
              | (with_reducible refine and_side ?_ ?_)
              | (with_reducible refine Br.yes (by omega) ?_)
              | (with_reducible refine Br.no (by omega) ?_)
              | (with_reducible refine Br.mk (fun _ => ?_) (fun _ => ?_))
              | (with_reducible refine Both.mk ?_ ?_)
              | ((with_reducible apply blkAt_intro) ; (focus (first | exact rfl | (repeat (first | assumption | exact get_new | exact get_set (by assumption) | exact get_set get_new | apply get_old | (apply get_set_ne; (focus (first | omega | (simp only [newB_length, List.length_set, List.length_append, List.length_singleton]; omega)))))); done)) ; (focus (first | rfl | assumption | omega)) ; (try dsimp only))
              | ((with_reducible apply appendR_lit) ; (focus (first | exact rfl | (repeat (first | assumption | exact get_new | exact get_set (by assumption) | exact get_set get_new | apply get_old | (apply get_set_ne; (focus (first | omega | (simp only [newB_length, List.length_set, List.length_append, List.length_singleton]; omega)))))); done)) ; (focus (first | rfl | assumption)) ; (focus rfl) ; (focus rfl) ; (focus rfl) ; (focus (first | exact Nat.zero_le _ | omega | (simp; done) | (simp; omega))) ; (try dsimp only))
              | (with_reducible refine appendR_nil ?_ ?_)
              | (with_reducible refine lenR_own (by assumption) ?_)
              | (with_reducible refine rowsR_own (by assumption) ?_)
              | (with_reducible refine lenR_sl ?_)
              | (with_reducible refine lenR_nils ?_)
              | (with_reducible refine lenR_rsl ?_)
              | (with_reducible refine rowsR_sl ?_)
              | (with_reducible refine rowsR_nils ?_)
              | (with_reducible refine rowsR_rsl ?_)
              | (with_reducible refine lenR_slx ?_)
              | (with_reducible refine rowsR_slx ?_)
              | (with_reducible refine appendR_slx ?_ ?_ ?_)
              | (with_reducible refine bytesR_intro (by first | rfl | (simp only [bs_take, bs_drop, bs_append]; rfl)) ?_)
              | (with_reducible refine nthR_bs (by first | omega | (simp only [List.length_append, List.length_cons, List.length_nil, List.length_take, List.length_drop, bs_length]; omega)) (fun _ _ => ?_))
              | (with_reducible intro _))))
        all_goals (conv => whnf)
        all_goals (try dsimp only)
        refine (bytes_Clone_ok _ (by simp only [List.length_drop, List.length_take]; omega)).call (.cons (.bs _ _ _) .nil) ?_
        rintro _ x σ1 rfl hg hG
        obtain ⟨hx, hxb⟩ := hG.sl_inv
        rcases hx with ⟨rfl, hnil⟩ | ⟨id, gen, sp, rfl, hb⟩
        · have := congrArg List.length hnil
          simp only [bs_length, List.length_drop, List.length_take, List.length_nil] at this
          omega
        · repeat' (first
            | ((with_reducible refine Side.intro ?_) <;> (first | with_reducible rfl | omega | assumption | exact Nat.le_of_ble_eq_true rfl | (simp only [bs_length, List.length_append, List.length_cons, List.length_nil, List.length_take, List.length_drop, List.length_set, List.length_replicate]; omega) | exact .inl (by omega) | exact .inr (.inl ⟨rfl, by (simp only [bs_length, List.length_append, List.length_cons, List.length_nil, List.length_take, List.length_drop, List.length_set, List.length_replicate]; omega)⟩) | exact Ref.ok_refl _ _ | ((first | refine fresh_tup ?_ | skip); (repeat (first | exact FreshA.nils | exact FreshA.nilp | exact FreshA.int _ _ | exact FreshA.bool _ | exact FreshA.str _ | exact fresh_nil | refine fresh_cons ?_ ?_)); done) | exact rfl | (simp; done)))
            | ((conv => whnf) <;> (first
                | (with_reducible refine and_same ?_)
                | (with_reducible refine and_side ?_ ?_)
                | (with_reducible refine Br.yes (by omega) ?_)
                | (with_reducible refine Br.no (by omega) ?_)
                | (with_reducible refine Br.mk (fun _ => ?_) (fun _ => ?_))
                | (with_reducible refine Both.mk ?_ ?_)
                | ((with_reducible apply blkAt_intro) ; (focus (first | exact rfl | (repeat (first | assumption | exact get_new | exact get_set (by assumption) | exact get_set get_new | apply get_old | (apply get_set_ne; (focus (first | omega | (simp only [newB_length, List.length_set, List.length_append, List.length_singleton]; omega)))))); done)) ; (focus (first | rfl | assumption | omega)) ; (try dsimp only))
                | ((with_reducible apply appendR_lit) ; (focus (first | exact rfl | (repeat (first | assumption | exact get_new | exact get_set (by assumption) | exact get_set get_new | apply get_old | (apply get_set_ne; (focus (first | omega | (simp only [newB_length, List.length_set, List.length_append, List.length_singleton]; omega)))))); done)) ; (focus (first | rfl | assumption)) ; (focus rfl) ; (focus rfl) ; (focus rfl) ; (focus (first | exact Nat.zero_le _ | omega | (simp; done) | (simp; omega))) ; (try dsimp only))
                | (with_reducible refine appendR_nil ?_ ?_)
                | (with_reducible refine lenR_own (by assumption) ?_)
                | (with_reducible refine rowsR_own (by assumption) ?_)
                | (with_reducible refine lenR_sl ?_)
                | (with_reducible refine lenR_nils ?_)
                | (with_reducible refine lenR_rsl ?_)
                | (with_reducible refine rowsR_sl ?_)
                | (with_reducible refine rowsR_nils ?_)
                | (with_reducible refine rowsR_rsl ?_)
                | (with_reducible refine lenR_slx ?_)
                | (with_reducible refine rowsR_slx ?_)
                | (with_reducible refine appendR_slx ?_ ?_ ?_)
                | (with_reducible refine bytesR_intro (by first | rfl | (simp only [bs_take, bs_drop, bs_append]; rfl)) ?_)
                | (with_reducible refine nthR_bs (by first | omega | (simp only [List.length_append, List.length_cons, List.length_nil, List.length_take, List.length_drop, bs_length]; omega)) (fun _ _ => ?_))
                | (with_reducible intro _))))
          all_goals (conv => whnf)
          all_goals (try dsimp only)
          have hlt : (diffs s t i).length ≤ i := diffs_le s t i
          have e1 : ((i : Int) * 64).toNat = i * 64 := by omega
          have e2 : (((i : Int) + 1) * 64).toNat = (i + 1) * 64 := by omega
          rw [e1, e2] at hb he ⊢
          refine appendR_own (rows := chg true (diffs s t i)) ?_ ?_ ?_
          · refine Own.keep (o := some id) ?_ hacc ?_
            · exact ((hg.trans (Gr.append _ _)).anyO _).trans (Gr.set _ _ _)
            · refine .inr fun e => ?_
              have h1 := hacc.lt e.symm
              have h2 := hxb _ rfl
              omega
          · rw [chg_length]
            simp only [List.length_cons, List.length_nil]
            omega
          · intro acc' σ' ho' hg' hb'
            repeat' (first
              | ((with_reducible refine Side.intro ?_) <;> (first | with_reducible rfl | omega | assumption | exact Nat.le_of_ble_eq_true rfl | (simp only [bs_length, List.length_append, List.length_cons, List.length_nil, List.length_take, List.length_drop, List.length_set, List.length_replicate]; omega) | exact .inl (by omega) | exact .inr (.inl ⟨rfl, by (simp only [bs_length, List.length_append, List.length_cons, List.length_nil, List.length_take, List.length_drop, List.length_set, List.length_replicate]; omega)⟩) | exact Ref.ok_refl _ _ | ((first | refine fresh_tup ?_ | skip); (repeat (first | exact FreshA.nils | exact FreshA.nilp | exact FreshA.int _ _ | exact FreshA.bool _ | exact FreshA.str _ | exact fresh_nil | refine fresh_cons ?_ ?_)); done) | exact rfl | (simp; done)))
              | ((conv => whnf) <;> (first
                  | (with_reducible refine and_same ?_)
                  | (with_reducible refine and_side ?_ ?_)
                  | (with_reducible refine Br.yes (by omega) ?_)
                  | (with_reducible refine Br.no (by omega) ?_)
                  | (with_reducible refine Br.mk (fun _ => ?_) (fun _ => ?_))
                  | (with_reducible refine Both.mk ?_ ?_)
                  | ((with_reducible apply blkAt_intro) ; (focus (first | exact rfl | (repeat (first | assumption | exact get_new | exact get_set (by assumption) | exact get_set get_new | apply get_old | (apply get_set_ne; (focus (first | omega | (simp only [newB_length, List.length_set, List.length_append, List.length_singleton]; omega)))))); done)) ; (focus (first | rfl | assumption | omega)) ; (try dsimp only))
                  | ((with_reducible apply appendR_lit) ; (focus (first | exact rfl | (repeat (first | assumption | exact get_new | exact get_set (by assumption) | exact get_set get_new | apply get_old | (apply get_set_ne; (focus (first | omega | (simp only [newB_length, List.length_set, List.length_append, List.length_singleton]; omega)))))); done)) ; (focus (first | rfl | assumption)) ; (focus rfl) ; (focus rfl) ; (focus rfl) ; (focus (first | exact Nat.zero_le _ | omega | (simp; done) | (simp; omega))) ; (try dsimp only))
                  | (with_reducible refine appendR_nil ?_ ?_)
                  | (with_reducible refine lenR_own (by assumption) ?_)
                  | (with_reducible refine rowsR_own (by assumption) ?_)
                  | (with_reducible refine lenR_sl ?_)
                  | (with_reducible refine lenR_nils ?_)
                  | (with_reducible refine lenR_rsl ?_)
                  | (with_reducible refine rowsR_sl ?_)
                  | (with_reducible refine rowsR_nils ?_)
                  | (with_reducible refine rowsR_rsl ?_)
                  | (with_reducible refine lenR_slx ?_)
                  | (with_reducible refine rowsR_slx ?_)
                  | (with_reducible refine appendR_slx ?_ ?_ ?_)
                  | (with_reducible refine bytesR_intro (by first | rfl | (simp only [bs_take, bs_drop, bs_append]; rfl)) ?_)
                  | (with_reducible refine nthR_bs (by first | omega | (simp only [List.length_append, List.length_cons, List.length_nil, List.length_take, List.length_drop, bs_length]; omega)) (fun _ _ => ?_))
                  | (with_reducible intro _))))
            all_goals (conv => whnf)
            all_goals (try dsimp only)
            refine ⟨(i + 1, σ', acc'), rfl, rfl, ⟨by omega, ?_⟩, by omega⟩
            dsimp only
            rw [diffs_succ, if_pos (by exact he), chg_append]
            simpa [chg, ln] using ho'
    · rcases hacc with ⟨rfl, h⟩ | ⟨id, gen, sp, rfl, hb⟩
      · repeat' (first
          | ((with_reducible refine Side.intro ?_) <;> (first | with_reducible rfl | omega | assumption | exact Nat.le_of_ble_eq_true rfl | (simp only [bs_length, List.length_append, List.length_cons, List.length_nil, List.length_take, List.length_drop, List.length_set, List.length_replicate]; omega) | exact .inl (by omega) | exact .inr (.inl ⟨rfl, by (simp only [bs_length, List.length_append, List.length_cons, List.length_nil, List.length_take, List.length_drop, List.length_set, List.length_replicate]; omega)⟩) | exact Ref.ok_refl _ _ | ((first | refine fresh_tup ?_ | skip); (repeat (first | exact FreshA.nils | exact FreshA.nilp | exact FreshA.int _ _ | exact FreshA.bool _ | exact FreshA.str _ | exact fresh_nil | refine fresh_cons ?_ ?_)); done) | exact rfl | (simp; done)))
          | ((conv => whnf) <;> (first
              | (with_reducible refine and_same ?_)
              | (with_reducible refine and_side ?_ ?_)
              | (with_reducible refine Br.yes (by omega) ?_)
              | (with_reducible refine Br.no (by omega) ?_)
              | (with_reducible refine Br.mk (fun _ => ?_) (fun _ => ?_))
              | (with_reducible refine Both.mk ?_ ?_)
              | ((with_reducible apply blkAt_intro) ; (focus (first | exact rfl | (repeat (first | assumption | exact get_new | exact get_set (by assumption) | exact get_set get_new | apply get_old | (apply get_set_ne; (focus (first | omega | (simp only [newB_length, List.length_set, List.length_append, List.length_singleton]; omega)))))); done)) ; (focus (first | rfl | assumption | omega)) ; (try dsimp only))
              | ((with_reducible apply appendR_lit) ; (focus (first | exact rfl | (repeat (first | assumption | exact get_new | exact get_set (by assumption) | exact get_set get_new | apply get_old | (apply get_set_ne; (focus (first | omega | (simp only [newB_length, List.length_set, List.length_append, List.length_singleton]; omega)))))); done)) ; (focus (first | rfl | assumption)) ; (focus rfl) ; (focus rfl) ; (focus rfl) ; (focus (first | exact Nat.zero_le _ | omega | (simp; done) | (simp; omega))) ; (try dsimp only))
              | (with_reducible refine appendR_nil ?_ ?_)
              | (with_reducible refine lenR_own (by assumption) ?_)
              | (with_reducible refine rowsR_own (by assumption) ?_)
              | (with_reducible refine lenR_sl ?_)
              | (with_reducible refine lenR_nils ?_)
              | (with_reducible refine lenR_rsl ?_)
              | (with_reducible refine rowsR_sl ?_)
              | (with_reducible refine rowsR_nils ?_)
              | (with_reducible refine rowsR_rsl ?_)
              | (with_reducible refine lenR_slx ?_)
              | (with_reducible refine rowsR_slx ?_)
              | (with_reducible refine appendR_slx ?_ ?_ ?_)
              | (with_reducible refine bytesR_intro (by first | rfl | (simp only [bs_take, bs_drop, bs_append]; rfl)) ?_)
              | (with_reducible refine nthR_bs (by first | omega | (simp only [List.length_append, List.length_cons, List.length_nil, List.length_take, List.length_drop, bs_length]; omega)) (fun _ _ => ?_))
              | (with_reducible intro _))))
        all_goals (conv => whnf)
        all_goals (try dsimp only)
        refine ⟨_, .tup (.cons (.nil 2 true) (.cons (.refl _) .nil)), ?_⟩
        have hi' : i = s.length / 64 := by omega
        rw [if_neg (by omega), ← hi', h]
      · repeat' (first
          | ((with_reducible refine Side.intro ?_) <;> (first | with_reducible rfl | omega | assumption | exact Nat.le_of_ble_eq_true rfl | (simp only [bs_length, List.length_append, List.length_cons, List.length_nil, List.length_take, List.length_drop, List.length_set, List.length_replicate]; omega) | exact .inl (by omega) | exact .inr (.inl ⟨rfl, by (simp only [bs_length, List.length_append, List.length_cons, List.length_nil, List.length_take, List.length_drop, List.length_set, List.length_replicate]; omega)⟩) | exact Ref.ok_refl _ _ | ((first | refine fresh_tup ?_ | skip); (repeat (first | exact FreshA.nils | exact FreshA.nilp | exact FreshA.int _ _ | exact FreshA.bool _ | exact FreshA.str _ | exact fresh_nil | refine fresh_cons ?_ ?_)); done) | exact rfl | (simp; done)))
          | ((conv => whnf) <;> (first
              | (with_reducible refine and_same ?_)
              | (with_reducible refine and_side ?_ ?_)
              | (with_reducible refine Br.yes (by omega) ?_)
              | (with_reducible refine Br.no (by omega) ?_)
              | (with_reducible refine Br.mk (fun _ => ?_) (fun _ => ?_))
              | (with_reducible refine Both.mk ?_ ?_)
              | ((with_reducible apply blkAt_intro) ; (focus (first | exact rfl | (repeat (first | assumption | exact get_new | exact get_set (by assumption) | exact get_set get_new | apply get_old | (apply get_set_ne; (focus (first | omega | (simp only [newB_length, List.length_set, List.length_append, List.length_singleton]; omega)))))); done)) ; (focus (first | rfl | assumption | omega)) ; (try dsimp only))
              | ((with_reducible apply appendR_lit) ; (focus (first | exact rfl | (repeat (first | assumption | exact get_new | exact get_set (by assumption) | exact get_set get_new | apply get_old | (apply get_set_ne; (focus (first | omega | (simp only [newB_length, List.length_set, List.length_append, List.length_singleton]; omega)))))); done)) ; (focus (first | rfl | assumption)) ; (focus rfl) ; (focus rfl) ; (focus rfl) ; (focus (first | exact Nat.zero_le _ | omega | (simp; done) | (simp; omega))) ; (try dsimp only))
              | (with_reducible refine appendR_nil ?_ ?_)
              | (with_reducible refine lenR_own (by assumption) ?_)
              | (with_reducible refine rowsR_own (by assumption) ?_)
              | (with_reducible refine lenR_sl ?_)
              | (with_reducible refine lenR_nils ?_)
              | (with_reducible refine lenR_rsl ?_)
              | (with_reducible refine rowsR_sl ?_)
              | (with_reducible refine rowsR_nils ?_)
              | (with_reducible refine rowsR_rsl ?_)
              | (with_reducible refine lenR_slx ?_)
              | (with_reducible refine rowsR_slx ?_)
              | (with_reducible refine appendR_slx ?_ ?_ ?_)
              | (with_reducible refine bytesR_intro (by first | rfl | (simp only [bs_take, bs_drop, bs_append]; rfl)) ?_)
              | (with_reducible refine nthR_bs (by first | omega | (simp only [List.length_append, List.length_cons, List.length_nil, List.length_take, List.length_drop, bs_length]; omega)) (fun _ _ => ?_))
              | (with_reducible intro _))))
        all_goals (conv => whnf)
        all_goals (try dsimp only)
        · refine ⟨_, .one (.refl _), ?_⟩
          have hi' : i = s.length / 64 := by omega
          rw [if_neg (by omega), ← hi', List.take_left']
          rfl
        · refine Side.intro ?_
          rw [List.take_left' rfl]
          exact fresh_cons (fresh_chg _) (fresh_cons (FreshA.int _ _) fresh_nil)
end
end Go.Proofs.Ytlhogahibillpaa
