import Derived.Test.YtjjmcpnbaahkgaaI
import Derived.Test.YtjjmcpnbaahkgaaVI
namespace Go.Proofs.Ytjjmcpnbaahkgaa
open Go Go.Proofs.Ytjjmcpnbaahkgaa.V
set_option maxRecDepth 20000
attribute [local irreducible] CallS AOK AOKn ALoop Side Ref.ok
def shp (p s r o : Int) : AV := .agg [.int .i64 p, .int .i64 s, .int .i64 r, .int .i64 o]
def sizedB (p s r o : Int) : Bool := decide (1 ≤ p ∧ p ≤ 64 ∧ 1 ≤ o ∧ o ≤ 4096 ∧ 2 ≤ s ∧ s ≤ 32 ∧ s % 2 = 0 ∧ 2 ≤ r ∧ r ≤ 8 ∧ r % 2 = 0)
theorem sized_ok (p s r o : Int) : AOKn Try.prog F.shape_sized [shp p s r o] fun y => y = .bool (sizedB p s r o) := by
  unfold shp
  refine AOKn.by_steps mixed fc_shape_sized_ok (by simp [fc_shape_sized]) ?_
  repeat' (first
    | ((with_reducible refine Side.intro ?_) <;> (first
    | omega
    | (simp only [List.append_nil, List.nil_append, List.map_nil]; first | exact List.nodup_nil | exact nodup_bid1 _ | exact nodup_bid2 (by assumption))
    | ((first | refine fresh_tup ?_ | skip); (repeat (first |  exact FreshA.sl _ _ FreshA_bs | exact FreshA.sl _ _ FreshA_is | exact FreshA.nils | exact FreshA.nilp | exact FreshA.int _ _ | exact FreshA.bool _ | exact FreshA.str _ | exact fresh_nil | refine fresh_cons ?_ ?_ | with_reducible refine fresh_aggR ?_ | with_reducible refine fresh_agg ?_ | with_reducible exact fresh_nilA | with_reducible refine fresh_consA ?_ ?_)); done)
    | exact rfl
    ))
    | ((conv => whnf) <;> (first
    | (with_reducible refine and_same ?_)
    | (with_reducible refine and_side ?_ ?_)
    | (with_reducible refine Br.yes (by omega) ?_)
    | (with_reducible refine Br.mk (fun _ => ?_) (fun _ => ?_))
    | ((with_reducible apply blkAt_intro) ; (focus (first
    | exact rfl
    )) ; (focus (first | rfl | assumption | omega)) ; (try dsimp only))
    | (with_reducible refine NOut.lit ?_)
    ))
    )
  all_goals (conv => whnf)
  all_goals (try dsimp only)
  all_goals first
    | exact ret_bool (decide_eq_true (by omega)).symm
    | exact ret_bool (decide_eq_false (by omega)).symm
    | trace_state
theorem part_val (σ : AH) (id gen : Nat) (m n : Int) (hb : σ[id]? = some { sz := 1, els := [[.int .i64 m]], gen := gen, wr := true, pure := true }) (hm : 0 ≤ m ∧ m ≤ 1000000) (hn : 0 ≤ n ∧ n ≤ 1000000) (Q : AV → AH → Prop)
    (h : Q (.int .i64 m) (σ.set id { sz := 1, els := [[.int .i64 (m + n)]], gen := gen, wr := true, pure := true })) : CallS Try.prog F.shape_lay_1 [.int .i64 n, .ptr id gen 0 0] σ Q := by
  refine call_of_body mixed fc_shape_lay_1_ok (by simp [fc_shape_lay_1]) ?_
  repeat' (first
    | ((with_reducible refine Side.intro ?_) <;> (first
    | exact Nat.le_of_ble_eq_true rfl
    | exact rfl
    ))
    | ((conv => whnf) <;> (first
    | (with_reducible refine and_same ?_)
    | (with_reducible refine and_side ?_ ?_)
    | (with_reducible refine Br.yes (by omega) ?_)
    | ((with_reducible apply blkAt_intro) ; (focus (first
    | ((repeat (first
    | assumption
    )); done)
    )) ; (focus (first | rfl | assumption | omega)) ; (try dsimp only))
    ))
    )
  all_goals (conv => whnf)
  all_goals (try dsimp only)
  exact h
theorem holders_val (σ : AH) (n : Int) (hn : 1 ≤ n ∧ n ≤ 1000) (Q : AV → AH → Prop) (h : Q (.int .i64 ((n - 1) / 7 + 1)) σ) : CallS Try.prog F.tree_holders [.int .i64 n] σ Q := by
  refine call_of_body mixed fc_tree_holders_ok (by simp [fc_tree_holders]) ?_
  repeat' (first
    | ((with_reducible refine Side.intro ?_) <;> (first
    | omega
    ))
    | ((conv => whnf) <;> (first
    | (with_reducible refine and_same ?_)
    | (with_reducible refine and_side ?_ ?_)
    | (with_reducible refine Br.yes (by omega) ?_)
    | (with_reducible refine Br.no (by omega) ?_)
    ))
    )
  all_goals (conv => whnf)
  all_goals (try dsimp only)
  exact h
theorem Nodes_val (σ : AH) (Q : AV → AH → Prop) (h : Q (.int .i64 13) σ) : CallS Try.prog F.tree_Nodes [.int .i64 64] σ Q := by
  refine call_of_body mixed fc_tree_Nodes_ok (by simp [fc_tree_Nodes]) ?_
  repeat' (first
    | ((conv => whnf) <;> (first
    | (with_reducible refine and_same ?_)
    | (with_reducible refine Br.no (by omega) ?_)
    ))
    )
  all_goals (conv => whnf)
  all_goals (try dsimp only)
  refine holders_val _ 64 (by omega) _ ?_
  skip
  all_goals (conv => whnf)
  all_goals (try dsimp only)
  refine loop_at (α := Nat) (fun k => [(0, .int .i64 ([10, 2, 1].getD k 0)), (3, .int .i64 ([10, 12, 13].getD k 0))]) (fun _ => σ) (fun k => k ≤ 2) (fun k => 2 - k) 0 (by omega) rfl rfl ?_
  intro k hk
  have h3 : k = 0 ∨ k = 1 ∨ k = 2 := by omega
  have g0 : ([10, 2, 1] : List Int).getD 0 0 = 10 := rfl
  have g1 : ([10, 2, 1] : List Int).getD 1 0 = 2 := rfl
  have g2 : ([10, 2, 1] : List Int).getD 2 0 = 1 := rfl
  have f0 : ([10, 12, 13] : List Int).getD 0 0 = 10 := rfl
  have f1 : ([10, 12, 13] : List Int).getD 1 0 = 12 := rfl
  have f2 : ([10, 12, 13] : List Int).getD 2 0 = 13 := rfl
  rcases h3 with rfl | rfl | rfl
  · repeat' (first
      | ((conv => whnf) <;> (first
      | (with_reducible refine and_same ?_)
      | (with_reducible refine Br.yes (by omega) ?_)
      ))
      )
    all_goals (conv => whnf)
    all_goals (try dsimp only)
    refine holders_val _ 10 (by omega) _ ?_
    repeat' (first
      | ((conv => whnf) <;> (first
      | (with_reducible refine and_same ?_)
      | (with_reducible refine Br.yes (by omega) ?_)
      ))
      )
    all_goals (conv => whnf)
    all_goals (try dsimp only)
    exact ⟨1, rfl, rfl, by omega, by omega⟩
  · repeat' (first
      | ((conv => whnf) <;> (first
      | (with_reducible refine and_same ?_)
      | (with_reducible refine Br.yes (by omega) ?_)
      ))
      )
    all_goals (conv => whnf)
    all_goals (try dsimp only)
    refine holders_val _ 2 (by omega) _ ?_
    repeat' (first
      | ((conv => whnf) <;> (first
      | (with_reducible refine and_same ?_)
      | (with_reducible refine Br.yes (by omega) ?_)
      ))
      )
    all_goals (conv => whnf)
    all_goals (try dsimp only)
    exact ⟨2, rfl, rfl, by omega, by omega⟩
  · repeat' (first
      | ((conv => whnf) <;> (first
      | (with_reducible refine and_same ?_)
      | (with_reducible refine Br.no (by omega) ?_)
      ))
      )
    all_goals (conv => whnf)
    all_goals (try dsimp only)
    exact h
/-- The heap of lay: what came in, what goes out, the areas, the next line. -/
def Hp (p s r o : Int) (a : List AV) (m : Int) : AH :=
  [{ sz := 4, els := [[.int .i64 p, .int .i64 s, .int .i64 r, .int .i64 o]], gen := 0, wr := true, pure := true },
   { sz := 9, els := [List.replicate 9 (.int .i64 0)], gen := 0, wr := true, pure := true },
   { sz := 9, els := [a], gen := 0, wr := true, pure := true },
   { sz := 1, els := [[.int .i64 m]], gen := 0, wr := true, pure := true }]
def z64 : AV := .int .i64 0
theorem part_hp (p s r o : Int) (a : List AV) (m n : Int) (hm : 0 ≤ m ∧ m ≤ 1000000) (hn : 0 ≤ n ∧ n ≤ 1000000) (Q : AV → AH → Prop) (h : Q (.int .i64 m) (Hp p s r o a (m + n))) : CallS Try.prog F.shape_lay_1 [.int .i64 n, .ptr 3 0 0 0] (Hp p s r o a m) Q :=
  part_val _ 3 0 m n rfl hm hn Q h
theorem part_to {p s r o : Int} {a : List AV} {m n : Int} {xs : List AV} {σ : AH} {Q : AV → AH → Prop} (hx : xs = [.int .i64 n, .ptr 3 0 0 0]) (hσ : σ = Hp p s r o a m) (hm : 0 ≤ m ∧ m ≤ 1000000) (hn : 0 ≤ n ∧ n ≤ 1000000) (h : ∀ k, k = m + n → Q (.int .i64 m) (Hp p s r o a k)) : CallS Try.prog F.shape_lay_1 xs σ Q := by
  subst hx; subst hσ
  exact part_hp p s r o a m n hm hn Q (h _ rfl)
def lines (p s r o : Int) : Int := 29 + 2 * o + s / 2 + r / 2 + 4 * p
def areasL (p s r o : Int) : AV := .agg [.int .i64 1, .int .i64 2, .int .i64 o, .int .i64 (2 + 2 * o), .int .i64 (3 + 2 * o), .int .i64 (3 + 2 * o + s / 2), .int .i64 (3 + 2 * o + s / 2 + r / 2), .int .i64 (29 + 2 * o + s / 2 + r / 2), .int .i64 (lines p s r o)]
set_option maxHeartbeats 4000000 in
theorem lay_ok (p s r o : Int) (h : sizedB p s r o = true) : AOKn Try.prog F.shape_lay [shp p s r o] fun y => y = areasL p s r o := by
  unfold shp
  refine AOKn.by_steps mixed fc_shape_lay_ok (by simp [fc_shape_lay]) ?_
  simp only [sizedB, decide_eq_true_eq] at h
  repeat' (first
    | ((with_reducible refine Side.intro ?_) <;> (first
    | exact Nat.le_of_ble_eq_true rfl
    | exact rfl
    ))
    | ((conv => whnf) <;> (first
    | (with_reducible refine and_same ?_)
    | (with_reducible refine and_side ?_ ?_)
    | (with_reducible refine Br.yes (by omega) ?_)
    | ((with_reducible apply blkAt_intro) ; (focus (first
    | exact rfl
    )) ; (focus (first | rfl | assumption | omega)) ; (try dsimp only))
    ))
    )
  all_goals (conv => whnf)
  all_goals (try dsimp only)
  refine part_to (p := p) (s := s) (r := r) (o := o) (a := [.int .i64 1, .int .i64 2, .int .i64 o, z64, z64, z64, z64, z64, z64]) (m := 2) (n := o * 2) rfl rfl (by omega) (by omega) fun m1 h1 => ?_
  show Fr.putOK ((1, .ptr 0 0 0 0) :: (2, .ptr 1 0 0 0) :: (3, .ptr 2 0 0 0) :: (4, .ptr 3 0 0 0) :: (5, .fn F.shape_lay_1 [.ptr 3 0 0 0]) :: (11, .fn F.shape_lay_1 [.ptr 3 0 0 0]) :: (12, .ptr 0 0 0 3) :: _) _ _ _
  skip
  all_goals (conv => whnf)
  all_goals (try dsimp only)
  refine part_to (p := p) (s := s) (r := r) (o := o) (a := [.int .i64 1, .int .i64 2, .int .i64 o, z64, z64, z64, z64, z64, z64]) (m := m1) (n := 1) (by first | rfl | trace_state) rfl (by omega) (by omega) fun m2 h2 => ?_
  repeat' (first
    | ((with_reducible refine Side.intro ?_) <;> (first
    | omega
    | exact Nat.le_of_ble_eq_true rfl
    | exact rfl
    ))
    | ((conv => whnf) <;> (first
    | (with_reducible refine and_same ?_)
    | (with_reducible refine and_side ?_ ?_)
    | (with_reducible refine Br.yes (by omega) ?_)
    | ((with_reducible apply blkAt_intro) ; (focus (first
    | exact rfl
    )) ; (focus (first | rfl | assumption | omega)) ; (try dsimp only))
    ))
    )
  all_goals (conv => whnf)
  all_goals (try dsimp only)
  refine part_to (p := p) (s := s) (r := r) (o := o) (a := [.int .i64 1, .int .i64 2, .int .i64 o, .int .i64 m1, z64, z64, z64, z64, z64]) (m := m2) (n := (s / 2)) (by first | rfl | trace_state) rfl (by omega) (by omega) fun m3 h3 => ?_
  repeat' (first
    | ((with_reducible refine Side.intro ?_) <;> (first
    | omega
    | exact Nat.le_of_ble_eq_true rfl
    | exact rfl
    ))
    | ((conv => whnf) <;> (first
    | (with_reducible refine and_same ?_)
    | (with_reducible refine and_side ?_ ?_)
    | (with_reducible refine Br.yes (by omega) ?_)
    | ((with_reducible apply blkAt_intro) ; (focus (first
    | exact rfl
    )) ; (focus (first | rfl | assumption | omega)) ; (try dsimp only))
    ))
    )
  all_goals (conv => whnf)
  all_goals (try dsimp only)
  refine part_to (p := p) (s := s) (r := r) (o := o) (a := [.int .i64 1, .int .i64 2, .int .i64 o, .int .i64 m1, .int .i64 m2, z64, z64, z64, z64]) (m := m3) (n := (r / 2)) (by first | rfl | trace_state) rfl (by omega) (by omega) fun m4 h4 => ?_
  repeat' (first
    | ((with_reducible refine Side.intro ?_) <;> (first
    | exact Nat.le_of_ble_eq_true rfl
    | exact rfl
    ))
    | ((conv => whnf) <;> (first
    | (with_reducible refine and_same ?_)
    | (with_reducible refine and_side ?_ ?_)
    | ((with_reducible apply blkAt_intro) ; (focus (first
    | exact rfl
    )) ; (focus (first | rfl | assumption | omega)) ; (try dsimp only))
    ))
    )
  all_goals (conv => whnf)
  all_goals (try dsimp only)
  refine Nodes_val _ _ ?_
  repeat' (first
    | ((conv => whnf) <;> (first
    | (with_reducible refine and_same ?_)
    | (with_reducible refine Br.yes (by omega) ?_)
    ))
    )
  all_goals (conv => whnf)
  all_goals (try dsimp only)
  refine part_to (p := p) (s := s) (r := r) (o := o) (a := [.int .i64 1, .int .i64 2, .int .i64 o, .int .i64 m1, .int .i64 m2, .int .i64 m3, z64, z64, z64]) (m := m4) (n := (13 * 2)) (by first | rfl | trace_state) rfl (by omega) (by omega) fun m5 h5 => ?_
  repeat' (first
    | ((with_reducible refine Side.intro ?_) <;> (first
    | exact Nat.le_of_ble_eq_true rfl
    | exact rfl
    ))
    | ((conv => whnf) <;> (first
    | (with_reducible refine and_same ?_)
    | (with_reducible refine and_side ?_ ?_)
    | (with_reducible refine Br.yes (by omega) ?_)
    | ((with_reducible apply blkAt_intro) ; (focus (first
    | exact rfl
    )) ; (focus (first | rfl | assumption | omega)) ; (try dsimp only))
    ))
    )
  all_goals (conv => whnf)
  all_goals (try dsimp only)
  refine part_to (p := p) (s := s) (r := r) (o := o) (a := [.int .i64 1, .int .i64 2, .int .i64 o, .int .i64 m1, .int .i64 m2, .int .i64 m3, .int .i64 m4, z64, z64]) (m := m5) (n := (p * 4)) (by first | rfl | trace_state) rfl (by omega) (by omega) fun m6 h6 => ?_
  repeat' (first
    | ((with_reducible refine Side.intro ?_) <;> (first
    | exact Nat.le_of_ble_eq_true rfl
    | (simp only [List.append_nil, List.nil_append, List.map_nil]; first | exact List.nodup_nil | exact nodup_bid1 _ | exact nodup_bid2 (by assumption))
    | ((first | refine fresh_tup ?_ | skip); (repeat (first |  exact FreshA.sl _ _ FreshA_bs | exact FreshA.sl _ _ FreshA_is | exact FreshA.nils | exact FreshA.nilp | exact FreshA.int _ _ | exact FreshA.bool _ | exact FreshA.str _ | exact fresh_nil | refine fresh_cons ?_ ?_ | with_reducible refine fresh_aggR ?_ | with_reducible refine fresh_agg ?_ | with_reducible exact fresh_nilA | with_reducible refine fresh_consA ?_ ?_)); done)
    | exact rfl
    ))
    | ((conv => whnf) <;> (first
    | (with_reducible refine and_same ?_)
    | (with_reducible refine and_side ?_ ?_)
    | ((with_reducible apply blkAt_intro) ; (focus (first
    | exact rfl
    )) ; (focus (first | rfl | assumption | omega)) ; (try dsimp only))
    | (with_reducible refine NOut.lit ?_)
    ))
    )
  all_goals (conv => whnf)
  all_goals (try dsimp only)
  all_goals
    have e1 : m1 = 2 + 2 * o := by omega
    have e2 : m2 = 3 + 2 * o := by omega
    have e3 : m3 = 3 + 2 * o + s / 2 := by omega
    have e4 : m4 = 3 + 2 * o + s / 2 + r / 2 := by omega
    have e5 : m5 = 29 + 2 * o + s / 2 + r / 2 := by omega
    have e6 : m6 = lines p s r o := by unfold lines; omega
    exact ret_same (by rw [e1, e2, e3, e4, e5, e6]; rfl)
end Go.Proofs.Ytjjmcpnbaahkgaa
