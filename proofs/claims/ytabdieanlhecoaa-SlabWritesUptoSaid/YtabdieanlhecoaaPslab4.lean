import Derived.Test.YtabdieanlhecoaaPslab3
import Derived.Test.YtabdieanlhecoaaPfrz
namespace Go.Proofs.Ytabdieanlhecoaa
open Go Go.Proofs.Ytabdieanlhecoaa.V
set_option maxRecDepth 20000
attribute [local irreducible] CallS AOK AOKn ALoop Side Ref.ok
def B1 : List UInt8 := swR 0 [1] [[7]] 0 0
theorem b1_ok : srOk B1 = true := by decide +kernel
theorem b1_len : B1.length = 256 := by decide +kernel
theorem b1_c : rC B1 = [1] := by decide +kernel
theorem b1_d : rD B1 = [[7, 0, 0, 0, 0, 0, 0, 0, 0, 0, 0, 0, 0, 0, 0, 0]] := by decide +kernel
theorem b1_of : rof B1 = 0 := by decide +kernel
theorem b1_np : rN B1 = 0 ∧ rP B1 = 0 := by decide +kernel
theorem nthR_datT {D : List (List UInt8)} {k : Nat} {K : List AV → Prop} {d : List UInt8} (h : D[k]? = some d) (hk : K [.sl 1 (bs d) true]) : nthR (datT D) k K :=
  nthR_intro (x := [.sl 1 (bs d) true]) (by simp [datT, h]) hk
theorem b1_0 : B1[0]? = some 1 ∧ B1[8]? = some 2 ∧ B1[48]? = some 7 := by decide +kernel
theorem small_ok : AOKn Try.prog F.joistlaw15_small [] fun y => y = .bool true := by
  refine AOKn.by_steps mixed fc_joistlaw15_small_ok (by simp [fc_joistlaw15_small]) ?_
  repeat' (first
    | ((with_reducible refine Side.intro ?_) <;> (first
    | omega
    | exact Nat.le_of_ble_eq_true rfl
    | exact rfl
    ))
    | ((conv => whnf) <;> (first
    | (with_reducible refine and_side ?_ ?_)
    ))
    )
  all_goals (conv => whnf)
  all_goals (try dsimp only)
  refine CallS.frz (bodied_of fc_slab_Write_ok) (id := 2) (b := { sz := 1, els := [[.rsl 1 0 0 1 none]], gen := 0, wr := true, pure := false }) (els' := [[.sl 1 [[.int .u8 7]] true]]) rfl rfl rfl rfl ?_
  refine SWrite_call 0 [1] [[7]] 0 0 (by simp) (by simp) (by intro d hd; simp at hd; subst hd; simp) (by exact .same rfl) (by exact .same rfl) fun H1 y hg1 hy hyn => ?_
  have eE : swE 0 [1] [[7]] 0 0 = 0 := by decide +kernel
  rw [eE]
  have hy1 : Own H1 1 y (bs B1) := hy
  clear hy
  have hbl := bs_length B1
  have b1l := b1_len
  skip
  all_goals (conv => whnf)
  all_goals (try dsimp only)
  refine SRead_call B1 (by omega) (Looks.ownbs hy1) fun H2 c d hg2 hc hd hcn hdn hcd => ?_
  obtain ⟨r1, r2, r3⟩ := sr_yes b1_ok
  rw [r1, r1, r1, b1_of, b1_np.1, b1_np.2, b1_ok]
  rw [r2, b1_c] at hc
  rw [r3, b1_d] at hd
  have hcl : (is [1]).length = 1 := rfl
  have hdl : (datT [[7, 0, 0, 0, 0, 0, 0, 0, 0, 0, 0, 0, 0, 0, 0, 0]]).length = 1 := rfl
  have hdl2 : (bs [7, 0, 0, 0, 0, 0, 0, 0, 0, 0, 0, 0, 0, 0, 0, 0]).length = 16 := rfl
  obtain ⟨v0, v8, v48⟩ := b1_0
  repeat' (first
    | ((with_reducible refine Side.intro ?_) <;> (first
    | omega
    | assumption
    | exact Nat.le_of_ble_eq_true rfl
    | exact rfl
    ))
    | ((conv => whnf) <;> (first
    | (with_reducible refine and_side ?_ ?_)
    ))
    )
  all_goals (conv => whnf)
  all_goals (try dsimp only)
  refine Bits_call 0 [0, 2] (by simp) (Looks.ownis (.mk' (sp := []) (by (first
        | ((repeat (first
        | exact get_new
        )); done)
        )) rfl rfl)) fun H3 hg3 => ?_
  rw [show btV 0 [0, 2] = 5 from by decide, show btEr 0 [0, 2] = 0 from by decide]
  have hy3 : Own H3 1 y (bs B1) := hy1.keepN (by (repeat (first
        | assumption
        | refine Gr.addN ?_ _
        | refine Gr.trans ?_ (by assumption)
        )))
  have hc3 : Own H3 1 c (is [1]) := hc.keepN (by (repeat (first
        | exact Gr.refl _ _
        | refine Gr.addN ?_ _
        | refine Gr.trans ?_ (by assumption)
        )))
  have hd3 : Own H3 1 d (datT [[7, 0, 0, 0, 0, 0, 0, 0, 0, 0, 0, 0, 0, 0, 0, 0]]) := hd.keepN (by (repeat (first
        | exact Gr.refl _ _
        | refine Gr.addN ?_ _
        | refine Gr.trans ?_ (by assumption)
        )))
  clear hy1 hc hd
  repeat' (first
    | ((with_reducible refine Side.intro ?_) <;> (first
    | omega
    | (simp only [List.append_nil, List.nil_append, List.map_nil]; first | exact List.nodup_nil | exact nodup_bid1 _ | exact nodup_bid2 (by assumption))
    | ((first | refine fresh_tup ?_ | skip); (repeat (first |  exact FreshA.sl _ _ FreshA_bs | exact FreshA.sl _ _ FreshA_is | exact FreshA.nils | exact FreshA.nilp | exact FreshA.int _ _ | exact FreshA.bool _ | exact FreshA.str _ | exact fresh_nil | refine fresh_cons ?_ ?_ | with_reducible refine fresh_aggR ?_ | with_reducible refine fresh_agg ?_ | with_reducible exact fresh_nilA | with_reducible refine fresh_consA ?_ ?_)); done)
    ))
    | ((conv => whnf) <;> (first
    | (with_reducible refine and_same ?_)
    | (with_reducible refine and_side ?_ ?_)
    | (with_reducible refine Br.yes rfl ?_)
    | ((with_reducible apply blkAt_intro) ; (focus (first
    | ((repeat (first
    | assumption
    )); done)
    )) ; (focus (first | rfl | assumption | omega)) ; (try dsimp only))
    | ((with_reducible apply lenR_own) ; (focus assumption))
    | ((with_reducible apply ia_own) ; (focus assumption))
    | (with_reducible refine NOut.lit ?_)
    | (with_reducible refine lenR_sl ?_)
    | (with_reducible intro _)
    ))
    )
  all_goals (conv => whnf)
  all_goals (try dsimp only)
  exact ret_bool rfl
theorem small_call {σ : AH} {Q : AV → AH → Prop} (h : ∀ σ', Gr σ σ' none → Q (.bool true) σ') : CallS Try.prog F.joistlaw15_small [] σ Q :=
  call_one small_ok .nil rfl h
end Go.Proofs.Ytabdieanlhecoaa
