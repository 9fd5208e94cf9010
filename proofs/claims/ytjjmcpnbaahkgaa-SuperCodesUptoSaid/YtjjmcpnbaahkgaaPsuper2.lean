import Derived.Test.YtjjmcpnbaahkgaaPsuper
import Derived.Test.YtjjmcpnbaahkgaaPwplain
namespace Go.Proofs.Ytjjmcpnbaahkgaa
open Go Go.Proofs.Ytjjmcpnbaahkgaa.V
set_option maxRecDepth 20000
attribute [local irreducible] CallS AOK AOKn ALoop Side Ref.ok
def hw (p s r o m b : Int) : List Int := [54238244327242, m, p, s, r, o, b]
def wrR (p s r o m b : Int) : List UInt8 := if supB p s r o m b then sealB (cat (hw p s r o m b)) else []
def wrE (p s r o m b : Int) : Int := if supB p s r o m b then 0 else 1
theorem supB_iff {p s r o m b : Int} : supB p s r o m b = true ↔ (okA p s r o = true ∧ (0 ≤ b ∧ b ≤ p ∧ ((m = 1 ∧ b = 0) ∨ (m = 2 ∧ b = p) ∨ m = 3 ∨ m = 4))) := by simp [supB]
theorem hw_may {p s r o m b : Int} (h : supB p s r o m b = true) : (hw p s r o m b).all mayW = true := by
  obtain ⟨h1, h2⟩ := supB_iff.1 h
  have h3 := sizedB_iff.1 (okA_iff.1 h1).1
  simp only [hw, List.all_cons, List.all_nil, Bool.and_true, Bool.and_eq_true, mayW, decide_eq_true_eq]
  refine ⟨by omega, by omega, by omega, by omega, by omega, by omega, by omega⟩
theorem hw_len (p s r o m b : Int) : (cat (hw p s r o m b)).length = 56 := by rw [cat_length]; rfl
theorem Write_ok (p s r o m b : Int) : AOKn Try.prog F.super_Write [shp p s r o, .int .i64 m, .int .i64 b] fun y => y = .tup [.sl 1 (bs (wrR p s r o m b)) true, .int .i64 (wrE p s r o m b)] := by
  refine AOKn.by_steps mixed fc_super_Write_ok (by simp [fc_super_Write]) ?_
  repeat' (first
    | ((with_reducible refine Side.intro ?_) <;> (first
    | exact Nat.le_of_ble_eq_true rfl
    | exact rfl
    ))
    | ((conv => whnf) <;> (first
    | (with_reducible refine and_side ?_ ?_)
    | ((with_reducible apply blkAt_intro) ; (focus (first
    | exact rfl
    )) ; (focus (first | rfl | assumption | omega)) ; (try dsimp only))
    ))
    )
  all_goals (conv => whnf)
  all_goals (try dsimp only)
  refine SRight_call p s r o m b fun H1 hg1 => ?_
  have b0 := hg1.2 0 _ rfl (by simp)
  unfold shp at b0
  cases ho : supB p s r o m b
  · rw [show wrR p s r o m b = [] from by simp [wrR, ho], show wrE p s r o m b = 1 from by simp [wrE, ho]]
    repeat' (first
      | ((with_reducible refine Side.intro ?_) <;> (first
      | (simp only [List.append_nil, List.nil_append, List.map_nil]; first | exact List.nodup_nil | exact nodup_bid1 _ | exact nodup_bid2 (by assumption))
      | ((first | refine fresh_tup ?_ | skip); (repeat (first |  exact FreshA.sl _ _ FreshA_bs | exact FreshA.sl _ _ FreshA_is | exact FreshA.nils | exact FreshA.nilp | exact FreshA.int _ _ | exact FreshA.bool _ | exact FreshA.str _ | exact fresh_nil | refine fresh_cons ?_ ?_ | with_reducible refine fresh_aggR ?_ | with_reducible refine fresh_agg ?_ | with_reducible exact fresh_nilA | with_reducible refine fresh_consA ?_ ?_)); done)
      ))
      | ((conv => whnf) <;> (first
      | (with_reducible refine and_side ?_ ?_)
      | (with_reducible refine NOut.lit ?_)
      ))
      )
    all_goals (conv => whnf)
    all_goals (try dsimp only)
    exact ret_nilt rfl
  · rw [show wrR p s r o m b = sealB (cat (hw p s r o m b)) from by simp [wrR, ho], show wrE p s r o m b = 0 from by simp [wrE, ho]]
    have hmay := hw_may ho
    have hR : ofR (hw p s r o m b) = cat (hw p s r o m b) := by rw [ofR, hmay, if_pos rfl]
    have hcl := hw_len p s r o m b
    repeat' (first
      | ((with_reducible refine Side.intro ?_) <;> (first
      | omega
      | exact Nat.le_of_ble_eq_true rfl
      | exact rfl
      ))
      | ((conv => whnf) <;> (first
      | (with_reducible refine and_side ?_ ?_)
      | ((with_reducible apply blkAt_intro) ; (focus (first
      | ((repeat (first
      | assumption
      )); done)
      )) ; (focus (first | rfl | assumption | omega)) ; (try dsimp only))
      ))
      )
    all_goals (conv => whnf)
    all_goals (try dsimp only)
    refine Of_call (hw p s r o m b) (by simp [hw]) (Looks.ownis (.mk' (sp := []) (by (first
          | ((repeat (first
          | exact get_new
          )); done)
          )) rfl rfl)) fun H2 y hg2 hy hn2 => ?_
    rw [hR] at hy
    skip
    all_goals (conv => whnf)
    all_goals (try dsimp only)
    refine call_sl (Seal_ok (cat (hw p s r o m b)) (by omega)) (.cons (Looks.ownbs hy) .nil) fun H3 z hg3 hz hn3 => ?_
    repeat' (first
      | ((with_reducible refine Side.intro ?_) <;> (first
      | (simp only [List.append_nil, List.nil_append, List.map_nil]; first | exact List.nodup_nil | exact nodup_bid1 _ | exact nodup_bid2 (by assumption))
      | ((first | refine fresh_tup ?_ | skip); (repeat (first |  exact FreshA.sl _ _ FreshA_bs | exact FreshA.sl _ _ FreshA_is | exact FreshA.nils | exact FreshA.nilp | exact FreshA.int _ _ | exact FreshA.bool _ | exact FreshA.str _ | exact fresh_nil | refine fresh_cons ?_ ?_ | with_reducible refine fresh_aggR ?_ | with_reducible refine fresh_agg ?_ | with_reducible exact fresh_nilA | with_reducible refine fresh_consA ?_ ?_)); done)
      ))
      | ((conv => whnf) <;> (first
      | (with_reducible refine and_side ?_ ?_)
      | (with_reducible refine NOut.own (by assumption) ?_)
      | (with_reducible refine NOut.lit ?_)
      ))
      )
    all_goals (conv => whnf)
    all_goals (try dsimp only)
    exact ret_same rfl
theorem Write_call (p s r o m b : Int) {σ : AH} {Q : AV → AH → Prop} (h : ∀ σ' y, Gr σ σ' none → Own σ' 1 y (bs (wrR p s r o m b)) → New σ y → Q (.tup [y, .int .i64 (wrE p s r o m b)]) σ') : CallS Try.prog F.super_Write [shp p s r o, .int .i64 m, .int .i64 b] σ Q :=
  call_sl1 (Write_ok p s r o m b) (.cons (.same rfl) (.cons (.int _ _ _) (.cons (.int _ _ _) .nil))) rfl h
theorem RWrite_ok (p s r o m b : Int) : AOKn Try.prog F.joistref17_Write [shp p s r o, .int .i64 m, .int .i64 b] fun y => y = .tup [.sl 1 (bs (wrR p s r o m b)) true, .int .i64 (wrE p s r o m b)] := by
  refine AOKn.by_steps mixed fc_joistref17_Write_ok (by simp [fc_joistref17_Write]) ?_
  repeat' (first
    | ((with_reducible refine Side.intro ?_) <;> (first
    | exact Nat.le_of_ble_eq_true rfl
    | exact rfl
    ))
    | ((conv => whnf) <;> (first
    | (with_reducible refine and_side ?_ ?_)
    | ((with_reducible apply blkAt_intro) ; (focus (first
    | exact rfl
    )) ; (focus (first | rfl | assumption | omega)) ; (try dsimp only))
    ))
    )
  all_goals (conv => whnf)
  all_goals (try dsimp only)
  refine SRRight_call p s r o m b fun H1 hg1 => ?_
  have b0 := hg1.2 0 _ rfl (by simp)
  unfold shp at b0
  cases ho : supB p s r o m b
  · rw [show wrR p s r o m b = [] from by simp [wrR, ho], show wrE p s r o m b = 1 from by simp [wrE, ho]]
    repeat' (first
      | ((with_reducible refine Side.intro ?_) <;> (first
      | (simp only [List.append_nil, List.nil_append, List.map_nil]; first | exact List.nodup_nil | exact nodup_bid1 _ | exact nodup_bid2 (by assumption))
      | ((first | refine fresh_tup ?_ | skip); (repeat (first |  exact FreshA.sl _ _ FreshA_bs | exact FreshA.sl _ _ FreshA_is | exact FreshA.nils | exact FreshA.nilp | exact FreshA.int _ _ | exact FreshA.bool _ | exact FreshA.str _ | exact fresh_nil | refine fresh_cons ?_ ?_ | with_reducible refine fresh_aggR ?_ | with_reducible refine fresh_agg ?_ | with_reducible exact fresh_nilA | with_reducible refine fresh_consA ?_ ?_)); done)
      ))
      | ((conv => whnf) <;> (first
      | (with_reducible refine and_side ?_ ?_)
      | (with_reducible refine NOut.lit ?_)
      ))
      )
    all_goals (conv => whnf)
    all_goals (try dsimp only)
    exact ret_nilt rfl
  · rw [show wrR p s r o m b = sealB (cat (hw p s r o m b)) from by simp [wrR, ho], show wrE p s r o m b = 0 from by simp [wrE, ho]]
    have hmay := hw_may ho
    have hR : ofR (hw p s r o m b) = cat (hw p s r o m b) := by rw [ofR, hmay, if_pos rfl]
    have hcl := hw_len p s r o m b
    repeat' (first
      | ((with_reducible refine Side.intro ?_) <;> (first
      | omega
      | exact Nat.le_of_ble_eq_true rfl
      | exact rfl
      ))
      | ((conv => whnf) <;> (first
      | (with_reducible refine and_side ?_ ?_)
      | ((with_reducible apply blkAt_intro) ; (focus (first
      | ((repeat (first
      | assumption
      )); done)
      )) ; (focus (first | rfl | assumption | omega)) ; (try dsimp only))
      ))
      )
    all_goals (conv => whnf)
    all_goals (try dsimp only)
    refine ROf_call (hw p s r o m b) (by simp [hw]) (Looks.ownis (.mk' (sp := []) (by (first
          | ((repeat (first
          | exact get_new
          )); done)
          )) rfl rfl)) fun H2 y hg2 hy hn2 => ?_
    rw [hR] at hy
    skip
    all_goals (conv => whnf)
    all_goals (try dsimp only)
    refine call_sl (RSeal_ok (cat (hw p s r o m b)) (by omega)) (.cons (Looks.ownbs hy) .nil) fun H3 z hg3 hz hn3 => ?_
    repeat' (first
      | ((with_reducible refine Side.intro ?_) <;> (first
      | (simp only [List.append_nil, List.nil_append, List.map_nil]; first | exact List.nodup_nil | exact nodup_bid1 _ | exact nodup_bid2 (by assumption))
      | ((first | refine fresh_tup ?_ | skip); (repeat (first |  exact FreshA.sl _ _ FreshA_bs | exact FreshA.sl _ _ FreshA_is | exact FreshA.nils | exact FreshA.nilp | exact FreshA.int _ _ | exact FreshA.bool _ | exact FreshA.str _ | exact fresh_nil | refine fresh_cons ?_ ?_ | with_reducible refine fresh_aggR ?_ | with_reducible refine fresh_agg ?_ | with_reducible exact fresh_nilA | with_reducible refine fresh_consA ?_ ?_)); done)
      ))
      | ((conv => whnf) <;> (first
      | (with_reducible refine and_side ?_ ?_)
      | (with_reducible refine NOut.own (by assumption) ?_)
      | (with_reducible refine NOut.lit ?_)
      ))
      )
    all_goals (conv => whnf)
    all_goals (try dsimp only)
    exact ret_same rfl
theorem RWrite_call (p s r o m b : Int) {σ : AH} {Q : AV → AH → Prop} (h : ∀ σ' y, Gr σ σ' none → Own σ' 1 y (bs (wrR p s r o m b)) → New σ y → Q (.tup [y, .int .i64 (wrE p s r o m b)]) σ') : CallS Try.prog F.joistref17_Write [shp p s r o, .int .i64 m, .int .i64 b] σ Q :=
  call_sl1 (RWrite_ok p s r o m b) (.cons (.same rfl) (.cons (.int _ _ _) (.cons (.int _ _ _) .nil))) rfl h
end Go.Proofs.Ytjjmcpnbaahkgaa
