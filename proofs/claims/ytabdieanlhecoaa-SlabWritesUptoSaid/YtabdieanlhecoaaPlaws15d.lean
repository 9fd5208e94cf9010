import Derived.Test.YtabdieanlhecoaaPslabh
import Derived.Test.YtabdieanlhecoaaPref15c
import Derived.Test.YtabdieanlhecoaaPsame11
import Derived.Test.YtabdieanlhecoaaPnest
namespace Go.Proofs.Ytabdieanlhecoaa
open Go Go.Proofs.Ytabdieanlhecoaa.V
set_option maxRecDepth 20000
attribute [local irreducible] CallS AOK AOKn ALoop Side Ref.ok
theorem shA_int (n : Nat) (k : IntKind) (i : Int) : shA n (.int k i) = .int k i := rfl
/-- For who calls. -/
theorem SReadH_call (t : List UInt8) (hs : t.length ≤ 4611686018) {σ : AH} {x : AV} (hx : Looks σ x (.sl 1 (bs t) false)) {Q : AV → AH → Prop}
    (h : ∀ σ' c d xs, Gr σ σ' none → Own σ' 1 c (is (srC t)) → NestS σ' d xs → Sep σ' xs (srD t) → (∀ id, c.bid = some id → σ.length ≤ id) → (∀ id, d.bid = some id → σ.length ≤ id) → (∀ y, y ∈ xs → ∀ id, y.bid = some id → σ.length ≤ id) → (c.bid = none ∨ c.bid ≠ d.bid) → Off c xs → Off d xs →
      Q (.tup [.int .i64 (srI t (rof t)), c, d, .int .i64 (srI t (rN t)), .int .i64 (srI t (rP t)), .bool (srOk t)]) σ') : CallS Try.prog F.slab_Read [x] σ Q := by
  refine CallS.lift (vs := [.sl 1 (bs t) false]) (.cons hx .nil) ((SRead_h t hs).mono ?_)
  rintro _ τ ⟨c, d, xs, rfl, hc, hd, hsp, h1, h2, h3⟩
  refine ⟨?_, fun τ' hh => ?_⟩
  · intro y hy
    simp only [List.mem_cons, List.not_mem_nil, or_false] at hy
    rcases hy with rfl | rfl | rfl | rfl | rfl | rfl
    · exact .fresh (.int _ _)
    · exact hc.fs
    · exact hd.fs
    · exact .fresh (.int _ _)
    · exact .fresh (.int _ _)
    · exact .fresh (.bool _)
  · refine h (σ ++ τ') (shA σ.length c) (shA σ.length d) (xs.map (shA σ.length)) (Gr.append _ _) (hc.handed hh (fresh_is_rows _)) (NestS.handed hh hd hsp.fs) (Sep.handed hh hsp) (shA_new _ _) (shA_new _ _) ?_ (shA_ne h1) (h2.sh _) (h3.sh _)
    intro y hy
    obtain ⟨z, _, rfl⟩ := List.mem_map.1 hy
    exact shA_new _ z
theorem datT_eq (D : List (List UInt8)) : datT D = D.map fun d => [AV.sl 1 (bs d) true] := rfl
theorem looks_xs {σ : AH} {d : AV} {xs : List AV} {D : List (List UInt8)} (h : NestS σ d xs) (hs : Sep σ xs D) : Looks σ d (.sl 1 (Go.Proofs.Ytabdieanlhecoaa.dat D) false) := NestS.looks h hs
set_option maxHeartbeats 4000000 in
theorem SlabReads_ok (b : List UInt8) (hb : b.length ≤ 4611686018) : AOKn Try.prog F.joistlaw15_SlabReads [.sl 1 (bs b) false] fun y => y = .bool true := by
  have hbn := bs_length b
  refine AOKn.by_steps mixed fc_joistlaw15_SlabReads_ok (by simp [fc_joistlaw15_SlabReads]) ?_
  skip
  all_goals (conv => whnf)
  all_goals (try dsimp only)
  refine small_call fun H1 hg1 => ?_
  skip
  all_goals (conv => whnf)
  all_goals (try dsimp only)
  refine Lent_val H1 b false (by omega) _ ?_
  generalize hσ : H1 ++ [{ sz := 1, els := bs (b ++ [77]), gen := 0, wr := true, pure := true }] = H0
  have hblk : H0[H1.length]? = some { sz := 1, els := bs (b ++ [77]), gen := 0, wr := true, pure := true } := by rw [← hσ]; exact get_new
  have hin : Own H0 1 (.rsl H1.length 0 0 b.length none) (bs b) := .mk' (sp := bs [77]) hblk (by rw [bs_length]) (by rw [bs_append])
  have raw : UseRaw := ⟨⟩
  skip
  all_goals (conv => whnf)
  all_goals (try dsimp only)
  refine SReadH_call b hb (.ownbs hin) fun H2 c d xs hg2 hc hd hsp hcn hdn hxn hcd hcx hdx => ?_
  have hin2 := hin.keepN hg2
  replace hblk := hg2.2 H1.length _ (by (first
        | ((repeat (first
        | assumption
        )); done)
        )) (by simp)
  skip
  all_goals (conv => whnf)
  all_goals (try dsimp only)
  refine Kept_val _ b _ _ [] _ (by omega) hblk _ ?_
  skip
  all_goals (conv => whnf)
  all_goals (try dsimp only)
  refine RRead_call b hb (.bs _ _ _) fun H3 m f hg3 hm hf hmn hfn hmf => ?_
  replace hin2 := hin2.keepN hg3
  replace hc := hc.keepN hg3
  replace hd := NestR.keepN hg3 hd
  replace hsp := hsp.keepN hg3
  replace hblk := hg3.2 H1.length _ (by (first
        | ((repeat (first
        | assumption
        )); done)
        )) (by simp)
  have hcl : (srC b).length ≤ 14 := by
    cases hs : srOk b
    · rw [(sr_no hs).2.1]; simp
    · rw [(sr_yes hs).2.1]; exact (rCD_len b).1
  have hdl : (srD b).length ≤ 14 := by
    cases hs : srOk b
    · rw [(sr_no hs).2.2]; simp
    · rw [(sr_yes hs).2.2]; exact (rCD_len b).2.1
  skip
  all_goals (conv => whnf)
  all_goals (try dsimp only)
  refine Same_call (srC b) (srC b) (by omega) (by omega) (Looks.ownis hc) (Looks.ownis hm) fun H4 hg4 => ?_
  rw [decide_eq_true rfl]
  replace hin2 := hin2.keepN hg4
  replace hd := NestR.keepN hg4 hd
  replace hsp := hsp.keepN hg4
  replace hf := hf.keepN hg4
  skip
  all_goals (conv => whnf)
  all_goals (try dsimp only)
  refine SameRows_call (srD b) (srD b) (by omega) (by omega) (looks_xs hd hsp) (Looks.owndat hf) fun H5 hg5 => ?_
  rw [decide_eq_true rfl]
  replace hin2 := hin2.keepN hg5
  replace hd := NestR.keepN hg5 hd
  replace hsp := hsp.keepN hg5
  repeat' (first
    | ((with_reducible refine Side.intro ?_) <;> (first
    | omega
    ))
    | ((conv => whnf) <;> (first
    | (with_reducible refine and_side ?_ ?_)
    | ((with_reducible apply AppC.raw) ; (focus assumption))
    ))
    )
  all_goals (conv => whnf)
  all_goals (try dsimp only)
  have hxl : xs.length ≤ 14 := by rw [hsp.len]; exact hdl
  refine NestR.rowsW (NestR.keepN (Gr.append _ _) hd) fun p => ?_
  refine appI_rsl get_new rfl rfl rfl (by simp) (by simp; omega) ?_
  dsimp only
  repeat' (first
    | ((with_reducible refine Side.intro ?_) <;> (first
    | omega
    | exact Nat.le_of_ble_eq_true rfl
    | exact rfl
    ))
    | ((conv => whnf) <;> (first
    | (with_reducible refine and_same ?_)
    | (with_reducible refine and_side ?_ ?_)
    | ((with_reducible apply blkAt_intro) ; (focus (first
    | ((repeat (first
    | exact get_new
    )); done)
    )) ; (focus (first | rfl | assumption | omega)) ; (try dsimp only))
    | ((with_reducible apply AppC.raw) ; (focus assumption))
    | (with_reducible refine rowsR_rsl ?_)
    ))
    )
  all_goals (conv => whnf)
  all_goals (try dsimp only)
  refine appI_rsl (get_old (get_set get_new)) rfl rfl rfl (by simp) (by simp; omega) ?_
  dsimp only
  have e1 : List.take (0 + (xs.map fun x => [x]).length) (List.take 0 (List.replicate 0 [AV.nils]) ++ xs.map fun x => [x]) ++ List.take 1 (List.drop 0 ((List.replicate 1 [AV.nils]).set 0 (AV.rsl (List.length H1) 0 0 b.length none).cells)) = (xs ++ [AV.rsl H1.length 0 0 b.length none]).map fun x => [x] := by
    rw [Nat.zero_add, List.take_zero, List.nil_append, List.take_length]
    simp [AV.cells]
  have e2 : 0 + (xs.map fun x => [x]).length + (List.take 1 (List.drop 0 ((List.replicate 1 [AV.nils]).set 0 (AV.rsl (List.length H1) 0 0 b.length none).cells))).length = (xs ++ [AV.rsl H1.length 0 0 b.length none]).length := by
    simp
  rw [e1, e2]
  skip
  all_goals (conv => whnf)
  all_goals (try dsimp only)
  have hl01 : H1.length < H0.length := by rw [← hσ]; simp
  have S := hsp.snoc hin2 (fun y hy => by
    cases hb : y.bid with
    | none => exact .inl rfl
    | some a =>
      right
      intro e
      have := hxn y hy a hb
      cases e
      omega)
  refine Owned_sep S (by (repeat (first
        | exact Gr.refl _ _
        | refine Gr.setNew ?_ (by first | exact Nat.le_refl _ | (simp only [newB_length, List.length_set, List.length_append, List.length_singleton]; omega) | omega) _
        | refine Gr.addN ?_ _
        ))) _ false true false (Nat.le_refl _) (get_set (get_old (get_set get_new))) (by simp; omega) _ fun σ' hE => ?_
  repeat' (first
    | ((with_reducible refine Side.intro ?_) <;> (first
    | (simp only [List.append_nil, List.nil_append, List.map_nil]; first | exact List.nodup_nil | exact nodup_bid1 _ | exact nodup_bid2 (by assumption))
    | ((first | refine fresh_tup ?_ | skip); (repeat (first |  exact FreshA.sl _ _ FreshA_bs | exact FreshA.sl _ _ FreshA_is | exact FreshA.nils | exact FreshA.nilp | exact FreshA.int _ _ | exact FreshA.bool _ | exact FreshA.str _ | exact fresh_nil | refine fresh_cons ?_ ?_ | with_reducible refine fresh_aggR ?_ | with_reducible refine fresh_agg ?_ | with_reducible exact fresh_nilA | with_reducible refine fresh_consA ?_ ?_)); done)
    ))
    | ((conv => whnf) <;> (first
    | (with_reducible refine and_same ?_)
    | (with_reducible refine and_side ?_ ?_)
    | (with_reducible refine Br.yes rfl ?_)
    | (with_reducible refine NOut.lit ?_)
    ))
    )
  all_goals (conv => whnf)
  all_goals (try dsimp only)
  exact ret_bool rfl
end Go.Proofs.Ytabdieanlhecoaa
