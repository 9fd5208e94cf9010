import Derived.Test.YthakanioekmhbaaPdev9
namespace Go.Proofs.Ythakanioekmhbaa
open Go Go.Proofs.Ythakanioekmhbaa.V
set_option maxRecDepth 20000
attribute [local irreducible] CallS AOK AOKn ALoop Side Ref.ok
theorem crashL_nil (d : Dv) : crashL [] d = d := by
  unfold crashL
  generalize (srt (d.es.map ME.key)).zipIdx = l
  induction l generalizing d with
  | nil => rfl
  | cons p r ih =>
    rw [List.foldl_cons]
    have : crashS [] d p = d := if_neg (by simp [keptAt])
    rw [this]; exact ih d
theorem crashD_nil (d : Dv) : crashD [] d = { d with S := d.L, es := [], armed := 0, down := false } := by
  unfold crashD; rw [crashL_nil]
def z128 : List UInt8 := List.replicate 128 0
def sd0 : Dv := ⟨z128, z128, [], 0, 0, false⟩
def sd1 : Dv := ⟨z128, storeL z128 0 [1], [⟨0, .bool false, 0⟩], 1, 0, false⟩
def sd2 : Dv := ⟨z128, z128, [], 1, 0, false⟩
def sd3 : Dv := ⟨z128, storeL z128 0 [1], [⟨0, .bool false, 1⟩], 2, 0, false⟩
def sd4 : Dv := ⟨z128, storeL z128 0 [1], [⟨0, .bool true, 1⟩], 2, 0, false⟩
def sd5 : Dv := ⟨lastL z128 (storeL z128 0 [1]) 0, storeL z128 0 [1], [], 2, 0, false⟩
def sd6 : Dv := ⟨lastL z128 (storeL z128 0 [1]) 0, lastL z128 (storeL z128 0 [1]) 0, [], 2, 0, false⟩
def sd7 : Dv := ⟨lastL z128 (storeL z128 0 [1]) 0, lastL z128 (storeL z128 0 [1]) 0, [], 2, 1, false⟩
def sd8 : Dv := ⟨lastL z128 (storeL z128 0 [1]) 0, lastL z128 (storeL z128 0 [1]) 0, [], 2, 0, true⟩
theorem srt0 : srt [0] = [0] := by simp [srt]
theorem se1 : storeD sd0 0 [1] = (0, sd1) := by rfl
theorem se2 : crashD [] sd1 = sd2 := by rw [crashD_nil]; rfl
theorem se3 : storeD sd2 0 [1] = (0, sd3) := by rfl
theorem se4 : flushD sd3 0 1 = (0, sd4) := by rfl
theorem se5 : fenceD sd4 = (0, sd5) := by
  have e : beginD sd4 0 0 = (0, sd4) := by rfl
  unfold fenceD
  rw [e]
  dsimp only
  rw [if_neg (by simp), show sd4.es.map ME.key = [0] from rfl, srt0]
  rfl
theorem se6 : crashD [] sd5 = sd6 := by rw [crashD_nil]; rfl
theorem se8 : storeD sd7 0 [2] = (5, sd8) := by rfl
theorem so0 : DvR sd0 := DvR.new (s := z128) (by decide)
theorem so1 : DvR sd1 := by have := so0.store 0 [1]; rwa [se1] at this
theorem so2 : DvR sd2 := by have := so1.crash []; rwa [se2] at this
theorem so3 : DvR sd3 := by have := so2.store 0 [1]; rwa [se3] at this
theorem so4 : DvR sd4 := by have := so3.flush 0 1; rwa [se4] at this
theorem so5 : DvR sd5 := by have := so4.fence; rwa [se5] at this
theorem so6 : DvR sd6 := by have := so5.crash []; rwa [se6] at this
theorem so7 : DvR sd7 := so6.arm (n := 1) (by decide)
theorem own_lit (σ : AH) (s : List UInt8) : Own (newB σ 1 (bs s) true) 1 (.rsl σ.length 0 0 s.length none) (bs s) := by
  have := Own.new σ 1 (bs s) []
  rwa [List.append_nil, bs_length] at this
theorem small_ok : AOKn Try.prog F.joistlaw03_small [] fun y => y = .bool true := by
  refine AOKn.by_steps mixed fc_joistlaw03_small_ok (by simp [fc_joistlaw03_small]) ?_
  repeat' (first
    | ((with_reducible refine Side.intro ?_) <;> (first
    | omega
    ))
    | ((conv => whnf) <;> (first
    | (with_reducible refine and_side ?_ ?_)
    ))
    )
  all_goals (conv => whnf)
  all_goals (try dsimp only)
  have o0 : Own (newB [] 1 (bs z128) true) 1 (.rsl 0 0 0 128 none) (bs z128) := own_lit [] z128
  refine New_ok (s := z128) (.own o0) (by decide) _ ?_ (fun q => absurd (by decide) q)
  intro _ a σ0 hg0 h0 hn0
  change DevH σ0 a sd0 at h0
  have box0 := h0.box
  repeat' (first
    | ((with_reducible refine Side.intro ?_) <;> (first
    | omega
    | exact Nat.le_of_ble_eq_true rfl
    | exact rfl
    ))
    | ((conv => whnf) <;> (first
    | (with_reducible refine and_same ?_)
    | (with_reducible refine and_side ?_ ?_)
    | ((with_reducible apply Br.no) ; (focus omega))
    | ((with_reducible apply blkAt_step) ; (focus (first
    | ((repeat (first
    | assumption
    )); done)
    )) ; (focus (first | rfl | assumption | omega)) ; (focus (first | rfl | assumption)) ; (try dsimp only))
    ))
    )
  all_goals (conv => whnf)
  all_goals (try dsimp only)
  have o1 := own_lit σ0 [1]
  refine Store_ok (d := sd0) (b := [1]) (h0.keepN (by (repeat (first
        | exact Gr.refl _ _
        | refine Gr.addN ?_ _
        )))) (by decide) (by decide) 0 (.own o1) (fun id q e => ?_) (by decide) _ fun σ1 h1 hg1 => ?_
  · have := h0.lt id q
    cases e
    omega
  rw [se1] at h1 ⊢
  dsimp only at h1 ⊢
  skip
  all_goals (conv => whnf)
  all_goals (try dsimp only)
  refine Dirty_ok h1 so1.ok.map (by decide) _ fun y σ2 hg2 ho2 hn2 => ?_
  rw [show sd1.es.map ME.key = [0] from rfl, srt0] at ho2
  have hyn : ∀ id, a.has id → y.bid ≠ some id := fun id q e => by
    have := h1.lt id q
    have := hn2 id e
    omega
  skip
  all_goals (conv => whnf)
  all_goals (try dsimp only)
  refine Crash_ok (keep := []) (h1.keepN hg2) so1.ok (.own (Own.nil _ _)) (by decide) (fun _ _ e => by cases e) _ fun σ3 h3 hg3 => ?_
  rw [se2] at h3
  replace ho2 := Own.keepP ho2 hg3 hyn
  skip
  all_goals (conv => whnf)
  all_goals (try dsimp only)
  refine View_ok h3 (by decide) _ fun va σ4 hg4 ho4 hn4 => ?_
  change Own σ4 1 va (bs z128) at ho4
  have h4 := h3.keepN hg4
  replace ho2 := ho2.keepN hg4
  have hva : ∀ id, a.has id → va.bid ≠ some id := fun id q e => by
    have := h3.lt id q
    have := hn4 id e
    omega
  repeat' (first
    | ((with_reducible refine Side.intro ?_) <;> (first
    | omega
    | exact Nat.le_of_ble_eq_true rfl
    | exact rfl
    ))
    | ((conv => whnf) <;> (first
    | (with_reducible refine and_side ?_ ?_)
    ))
    )
  all_goals (conv => whnf)
  all_goals (try dsimp only)
  have o5 := own_lit σ4 [1]
  refine Store_ok (d := sd2) (b := [1]) (h4.keepN (by (repeat (first
        | exact Gr.refl _ _
        | refine Gr.addN ?_ _
        )))) (by decide) (by decide) 0 (.own o5) (fun id q e => ?_) (by decide) _ fun σ5 h5 hg5 => ?_
  · have := h4.lt id q
    cases e
    omega
  rw [se3] at h5 ⊢
  have gg5 : GrP σ4 σ5 a.has := (GrP.of (by (repeat (first
        | exact Gr.refl _ _
        | refine Gr.addN ?_ _
        ))) _).trans hg5
  replace ho2 := Own.keepP ho2 gg5 hyn
  replace ho4 := Own.keepP ho4 gg5 hva
  dsimp only at h5 ⊢
  skip
  all_goals (conv => whnf)
  all_goals (try dsimp only)
  refine Flush_ok h5 (by decide) (by decide) 0 1 _ fun σ6 h6 hg6 => ?_
  rw [se4] at h6 ⊢
  replace ho2 := Own.keepP ho2 hg6 hyn
  replace ho4 := Own.keepP ho4 hg6 hva
  dsimp only at h6 ⊢
  skip
  all_goals (conv => whnf)
  all_goals (try dsimp only)
  refine Fence_ok h6 so4.ok _ fun σ7 h7 hg7 => ?_
  rw [se5] at h7 ⊢
  replace ho2 := Own.keepP ho2 hg7 hyn
  replace ho4 := Own.keepP ho4 hg7 hva
  dsimp only at h7 ⊢
  skip
  all_goals (conv => whnf)
  all_goals (try dsimp only)
  refine Crash_ok (keep := []) h7 so5.ok (.own (Own.nil _ _)) (by decide) (fun _ _ e => by cases e) _ fun σ8 h8 hg8 => ?_
  rw [se6] at h8
  replace ho2 := Own.keepP ho2 hg8 hyn
  replace ho4 := Own.keepP ho4 hg8 hva
  skip
  all_goals (conv => whnf)
  all_goals (try dsimp only)
  refine View_ok h8 (by decide) _ fun vb σ9 hg9 ho9 hn9 => ?_
  have h9 := h8.keepN hg9
  replace ho2 := ho2.keepN hg9
  replace ho4 := ho4.keepN hg9
  have hvb : ∀ id, a.has id → vb.bid ≠ some id := fun id q e => by
    have := h8.lt id q
    have := hn9 id e
    omega
  skip
  all_goals (conv => whnf)
  all_goals (try dsimp only)
  refine Arm_ok h9 1 _ fun σ10 h10 hg10 => ?_
  replace h10 : DevH σ10 a sd7 := h10
  replace ho2 := Own.keepP ho2 hg10 hyn
  replace ho4 := Own.keepP ho4 hg10 hva
  replace ho9 := Own.keepP ho9 hg10 hvb
  repeat' (first
    | ((with_reducible refine Side.intro ?_) <;> (first
    | omega
    | exact Nat.le_of_ble_eq_true rfl
    | exact rfl
    ))
    | ((conv => whnf) <;> (first
    | (with_reducible refine and_side ?_ ?_)
    ))
    )
  all_goals (conv => whnf)
  all_goals (try dsimp only)
  have o11 := own_lit σ10 [2]
  refine Store_ok (d := sd7) (b := [2]) (h10.keepN (by (repeat (first
        | exact Gr.refl _ _
        | refine Gr.addN ?_ _
        )))) (by decide) (by decide) 0 (.own o11) (fun id q e => ?_) (by decide) _ fun σ11 h11 hg11 => ?_
  · have := h10.lt id q
    cases e
    omega
  rw [se8] at h11 ⊢
  have gg11 : GrP σ10 σ11 a.has := (GrP.of (by (repeat (first
        | exact Gr.refl _ _
        | refine Gr.addN ?_ _
        ))) _).trans hg11
  replace ho2 := Own.keepP ho2 gg11 hyn
  replace ho4 := Own.keepP ho4 gg11 hva
  replace ho9 := Own.keepP ho9 gg11 hvb
  dsimp only at h11 ⊢
  have l2 : (is [0]).length = 1 := rfl
  have l4 := bs_length z128
  have l9 : (bs sd6.S).length = 128 := by rw [bs_length]; rfl
  have l4' : z128.length = 128 := rfl
  have g4 : z128[0]? = some 0 := rfl
  have g9 : sd6.S[0]? = some 1 := rfl
  repeat' (first
    | ((with_reducible refine Side.intro ?_) <;> (first
    | omega
    ))
    | ((conv => whnf) <;> (first
    | (with_reducible refine and_same ?_)
    | (with_reducible refine Br.yes rfl ?_)
    | ((with_reducible apply blkAt_step) ; (focus (first
    | ((repeat (first
    | assumption
    )); done)
    )) ; (focus (first | rfl | assumption | omega)) ; (focus (first | rfl | assumption)) ; (try dsimp only))
    | ((with_reducible apply lenR_own) ; (focus assumption))
    | ((with_reducible apply ia_own) ; (focus assumption))
    | (with_reducible intro _)
    ))
    )
  all_goals (conv => whnf)
  all_goals (try dsimp only)
  refine Down_ok h11 _ ?_
  repeat' (first
    | ((with_reducible refine Side.intro ?_) <;> (first
    | (simp only [List.append_nil, List.nil_append, List.map_nil]; first | exact List.nodup_nil | exact nodup_bid1 _ | exact nodup_bid2 (by assumption))
    | ((first | refine fresh_tup ?_ | skip); (repeat (first |  exact FreshA.sl _ _ FreshA_bs | exact FreshA.sl _ _ FreshA_is | exact FreshA.nils | exact FreshA.nilp | exact FreshA.int _ _ | exact FreshA.bool _ | exact FreshA.str _ | exact fresh_nil | refine fresh_cons ?_ ?_ | with_reducible refine fresh_aggR ?_ | with_reducible refine fresh_agg ?_ | with_reducible exact fresh_nilA | with_reducible refine fresh_consA ?_ ?_)); done)
    ))
    | ((conv => whnf) <;> (first
    | (with_reducible refine and_side ?_ ?_)
    | (with_reducible refine NOut.lit ?_)
    ))
    )
  all_goals (conv => whnf)
  all_goals (try dsimp only)
  all_goals skip
  exact ret_bool rfl
end Go.Proofs.Ythakanioekmhbaa
