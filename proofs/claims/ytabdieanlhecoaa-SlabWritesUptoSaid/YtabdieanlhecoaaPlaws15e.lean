import Derived.Test.YtabdieanlhecoaaPlaws15d
namespace Go.Proofs.Ytabdieanlhecoaa
open Go Go.Proofs.Ytabdieanlhecoaa.V
set_option maxRecDepth 20000
attribute [local irreducible] CallS AOK AOKn ALoop Side Ref.ok
set_option maxHeartbeats 4000000 in
theorem SlabWrites_ok (c : Int) (l : List Int) (D : List (List UInt8)) (nx pv : Int) (hl : l.length ≤ 4611686018) (hD : D.length ≤ 4611686018) (hd : ∀ d, d ∈ D → d.length ≤ 4611686018) : AOKn Try.prog F.joistlaw15_SlabWrites [.int .i64 c, .sl 1 (is l) false, .sl 1 (dat D) false, .int .i64 nx, .int .i64 pv] fun y => y = .bool true := by
  have hln := is_length l
  have hDn := dat_length D
  refine AOKn.by_steps mixed fc_joistlaw15_SlabWrites_ok (by simp [fc_joistlaw15_SlabWrites]) ?_
  skip
  all_goals (conv => whnf)
  all_goals (try dsimp only)
  refine small_call fun H1 hg1 => ?_
  skip
  all_goals (conv => whnf)
  all_goals (try dsimp only)
  refine few_call D hD hd (Looks.dat _ _ _) fun H2 hg2 => ?_
  cases hf : fewB D
  · repeat' (first
      | ((with_reducible refine Side.intro ?_) <;> (first
      | (simp only [List.append_nil, List.nil_append, List.map_nil]; first | exact List.nodup_nil | exact nodup_bid1 _ | exact nodup_bid2 (by assumption))
      | ((first | refine fresh_tup ?_ | skip); (repeat (first |  exact FreshA.sl _ _ FreshA_bs | exact FreshA.sl _ _ FreshA_is | exact FreshA.nils | exact FreshA.nilp | exact FreshA.int _ _ | exact FreshA.bool _ | exact FreshA.str _ | exact fresh_nil | refine fresh_cons ?_ ?_ | with_reducible refine fresh_aggR ?_ | with_reducible refine fresh_agg ?_ | with_reducible exact fresh_nilA | with_reducible refine fresh_consA ?_ ?_)); done)
      ))
      | ((conv => whnf) <;> (first
      | (with_reducible refine and_side ?_ ?_)
      | (with_reducible refine NOut.lit ?_)
      ))
      )
    all_goals (conv => whnf)
    all_goals (try dsimp only)
    exact ret_bool rfl
  · by_cases h60 : l.length ≤ 60
    · have raw : UseRaw := ⟨⟩
      have hf2 : D.length ≤ 60 := by
        simp only [fewB, Bool.and_eq_true, decide_eq_true_eq] at hf
        exact hf.2
      repeat' (first
        | ((conv => whnf) <;> (first
        | (with_reducible refine and_same ?_)
        | ((with_reducible apply Br.no) ; (focus omega))
        | (with_reducible refine lenR_sl ?_)
        ))
        )
      all_goals (conv => whnf)
      all_goals (try dsimp only)
      refine loop_at (α := Nat × AH × AV × List AV) (fun a => [(13, a.2.2.1), (14, .int .i64 a.1)]) (fun a => a.2.1) (fun a => a.1 ≤ D.length ∧ NestS a.2.1 a.2.2.1 a.2.2.2 ∧ Sep a.2.1 a.2.2.2 (D.take a.1) ∧ Lents a.2.1 a.2.2.2 (D.take a.1) ∧ Off a.2.2.1 a.2.2.2) (fun a => D.length - a.1) (0, H2, .nils, []) ⟨Nat.zero_le _, NestR.nil _ _, Sep.nil _, Lents.nil _, fun y hy => by simp at hy⟩ rfl rfl ?_
      rintro ⟨i, σ, ia, xs⟩ ⟨hi, hia, hsp, hle, hoff⟩
      dsimp only at hi hia hsp hle hoff ⊢
      have hxl : xs.length = i := by rw [hsp.len, List.length_take]; omega
      by_cases hlt : i < D.length
      · obtain ⟨d, hdd, hdd'⟩ := getN (l := D) (k := i) (by omega)
        have hdm := hd d (List.mem_of_getElem? hdd')
        repeat' (first
          | ((with_reducible refine Side.intro ?_) <;> (first
          | omega
          ))
          | ((conv => whnf) <;> (first
          | (with_reducible refine and_same ?_)
          | ((with_reducible apply Br.yes) ; (focus omega))
          | ((with_reducible apply nthR_dat) ; (focus assumption))
          | (with_reducible refine ia_sl ?_ ?_)
          | (with_reducible refine lenR_sl ?_)
          ))
          )
        all_goals (conv => whnf)
        all_goals (try dsimp only)
        refine Lent_val σ d false (by omega) _ ?_
        repeat' (first
          | ((with_reducible refine Side.intro ?_) <;> (first
          | omega
          | exact Nat.le_of_ble_eq_true rfl
          | exact rfl
          ))
          | ((conv => whnf) <;> (first
          | (with_reducible refine and_same ?_)
          | (with_reducible refine and_side ?_ ?_)
          | ((with_reducible apply blkAt_intro) ; (focus (first
          | ((repeat (first
          | exact get_new
          )); done)
          )) ; (focus (first | rfl | assumption | omega)) ; (try dsimp only))
          | ((with_reducible apply AppC.raw) ; (focus assumption))
          | (with_reducible refine rowsR_rsl ?_)
          ))
          )
        all_goals (conv => whnf)
        all_goals (try dsimp only)
        have hxb : ∀ w, w ∈ xs → w.bid = none ∨ w.bid ≠ some σ.length := hsp.apart (y := .rsl σ.length 0 0 0 none) (fun id h => by cases h; exact Nat.le_refl _)
        have hib : (AV.rsl σ.length 0 0 d.length none).bid = none ∨ (AV.rsl σ.length 0 0 d.length none).bid ≠ ia.bid := hia.apart fun id h => by cases h; exact Nat.le_refl _
        refine NestS.append (xs := xs) (x := .rsl σ.length 0 0 d.length none) (NestR.keepN (by (repeat (first
              | exact Gr.refl _ _
              | refine Gr.addN ?_ _
              ))) hia) (by omega) (fun id hi => by cases hi; simp only [newB_length, List.length_append, List.length_singleton]; omega) hib ?_
        intro ia' σ' hia' hg' hb'
        have hblk : σ'[σ.length]? = some { sz := 1, els := bs (d ++ [77]), gen := 0, wr := true, pure := true } := hg'.2 _ _ (get_old get_new) (by
          intro e
          rcases hib with q | q
          · cases q
          · exact q e.symm)
        have hsp' : Sep σ' xs (D.take i) := Sep.keep (Sep.keepN (by (repeat (first
              | exact Gr.refl _ _
              | refine Gr.addN ?_ _
              ))) hsp) hg' hoff.keepd
        have hle' : Lents σ' xs (D.take i) := Lents.keep (Lents.keepN hle (by (repeat (first
              | exact Gr.refl _ _
              | refine Gr.addN ?_ _
              )))) hg' hoff.keepd
        have A2 : Off ia' (xs ++ [.rsl σ.length 0 0 d.length none]) := by
          rcases hb' with q | q
          · exact (hoff.snoc hib).same q
          · refine Off.snoc (Off.new hsp q (by simp [newB_length]; omega)) ?_
            rw [q]
            right
            simp only [AV.bid, newB_length, List.length_append, List.length_singleton, ne_eq, Option.some.injEq]
            omega
        repeat' (first
          | ((conv => whnf) <;> (first
          | (with_reducible refine and_same ?_)
          | ((with_reducible apply Br.yes) ; (focus omega))
          ))
          )
        all_goals (conv => whnf)
        all_goals (try dsimp only)
        refine ⟨(i + 1, σ', ia', xs ++ [.rsl σ.length 0 0 d.length none]), rfl, rfl, ⟨by dsimp only; omega, hia', ?_, ?_, A2⟩, by dsimp only; omega⟩
        · dsimp only
          rw [List.take_add_one, hdd']
          exact Sep.snoc hsp' (.mk' (sp := bs [77]) hblk (by rw [bs_length]) (by rw [bs_append])) hxb
        · dsimp only
          rw [List.take_add_one, hdd']
          exact Lents.snoc hsp'.len hle' hblk
      · have hil : i = D.length := by omega
        subst hil
        rw [List.take_length] at hsp hle
        repeat' (first
          | ((conv => whnf) <;> (first
          | (with_reducible refine and_same ?_)
          | ((with_reducible apply Br.no) ; (focus omega))
          | (with_reducible refine lenR_sl ?_)
          ))
          )
        all_goals (conv => whnf)
        all_goals (try dsimp only)
        refine SWrite_call c l D nx pv hl hD hd (Looks.is _ _ _) (looks_xs hia hsp) fun H3 y hg3 hy hyn => ?_
        have hyn4 := hsp.apart hyn
        replace hia := NestR.keepN hg3 hia
        replace hsp := hsp.keepN hg3
        replace hle := hle.keepN hg3
        skip
        all_goals (conv => whnf)
        all_goals (try dsimp only)
        refine RWrite_call c l D nx pv hl hD hd (Looks.is _ _ _) (Looks.dat _ _ _) fun H4 z hg4 hz hzn => ?_
        replace hia := NestR.keepN hg4 hia
        replace hsp := hsp.keepN hg4
        replace hle := hle.keepN hg4
        replace hy := hy.keepN hg4
        skip
        all_goals (conv => whnf)
        all_goals (try dsimp only)
        refine loop_at (α := Nat) (fun a => [(19, .int .i64 a)]) (fun _ => H4) (fun a => a ≤ D.length) (fun a => D.length - a) 0 (Nat.zero_le _) rfl rfl ?_
        intro i hi
        have hxm : (xs.map fun x => [x]).length = D.length := by rw [List.length_map]; omega
        by_cases hlt : i < D.length
        · obtain ⟨d, hdd, hdd'⟩ := getN (l := D) (k := i) (by omega)
          have hdm := hd d (List.mem_of_getElem? hdd')
          obtain ⟨x, hx, hx'⟩ := getN (l := xs) (k := i) (by omega)
          obtain ⟨id, rfl, hb⟩ := hle i x d hx' hdd'
          repeat' (first
            | ((with_reducible refine Side.intro ?_) <;> (first
            | omega
            ))
            | ((conv => whnf) <;> (first
            | (with_reducible refine and_same ?_)
            | ((with_reducible apply Br.yes) ; (focus omega))
            | ((with_reducible apply blkAt_intro) ; (focus (first
            | ((repeat (first
            | assumption
            )); done)
            )) ; (focus (first | rfl | assumption | omega)) ; (try dsimp only))
            | ((with_reducible apply nthR_dat) ; (focus assumption))
            | (with_reducible refine ia_sl ?_ ?_)
            | ((with_reducible apply NestR.ia) ; (focus assumption))
            | ((with_reducible apply NestR.lenW) ; (focus assumption))
            | ((with_reducible apply nest_nth) ; (focus assumption))
            | (with_reducible intro _)
            ))
            )
          all_goals (conv => whnf)
          all_goals (try dsimp only)
          refine Kept_val H4 d id 0 [] false (by omega) hb _ ?_
          repeat' (first
            | ((conv => whnf) <;> (first
            | (with_reducible refine and_same ?_)
            | ((with_reducible apply Br.yes) ; (focus omega))
            ))
            )
          all_goals (conv => whnf)
          all_goals (try dsimp only)
          exact ⟨i + 1, rfl, rfl, by omega, by omega⟩
        · have hil : i = D.length := by omega
          subst hil
          repeat' (first
            | ((with_reducible refine Side.intro ?_) <;> (first
            | omega
            ))
            | ((conv => whnf) <;> (first
            | (with_reducible refine and_same ?_)
            | (with_reducible refine and_side ?_ ?_)
            | (with_reducible refine Br.yes rfl ?_)
            | ((with_reducible apply Br.no) ; (focus omega))
            | ((with_reducible apply rowsR_own) ; (focus assumption))
            | ((with_reducible apply NestR.lenW) ; (focus assumption))
            | ((with_reducible apply AppC.raw) ; (focus assumption))
            | ((with_reducible apply bytesR_intro) ; (focus (first | rfl | (simp only [bs_take, bs_drop, bs_append]; rfl))))
            ))
            )
          all_goals (conv => whnf)
          all_goals (try dsimp only)
          refine NestR.rowsW (NestR.keepN (Gr.append _ _) hia) fun p => ?_
          refine appI_rsl get_new rfl rfl rfl (by simp) (by simp; omega) ?_
          dsimp only
          obtain ⟨ox1, ox2, ox3⟩ := hy.one
          repeat' (first
            | ((with_reducible refine Side.intro ?_) <;> (first
            | omega
            | exact Nat.le_of_ble_eq_true rfl
            ))
            | ((conv => whnf) <;> (first
            | (with_reducible refine and_same ?_)
            | (with_reducible refine and_side ?_ ?_)
            | ((with_reducible apply blkAt_intro) ; (focus (first
            | ((repeat (first
            | exact get_new
            )); done)
            )) ; (focus (first | rfl | assumption | omega)) ; (try dsimp only))
            | ((with_reducible apply AppC.raw) ; (focus assumption))
            | (with_reducible refine rowsR_rsl ?_)
            ))
            )
          all_goals (conv => whnf)
          all_goals (try dsimp only)
          refine appI_rsl (get_old (get_set get_new)) rfl rfl rfl (by simp) (by simp [ox1]; omega) ?_
          dsimp only
          have e1 : List.take (0 + (xs.map fun x => [x]).length) (List.take 0 (List.replicate 0 [AV.nils]) ++ xs.map fun x => [x]) ++ List.take 1 (List.drop 0 ((List.replicate 1 [AV.nils]).set 0 y.cells)) = (xs ++ [y]).map fun x => [x] := by
            rw [Nat.zero_add, List.take_zero, List.nil_append, List.take_length]
            simp [ox1]
          have e2 : 0 + (xs.map fun x => [x]).length + (List.take 1 (List.drop 0 ((List.replicate 1 [AV.nils]).set 0 y.cells))).length = (xs ++ [y]).length := by
            simp
          rw [e1, e2]
          skip
          all_goals (conv => whnf)
          all_goals (try dsimp only)
          have S := hsp.snoc hy hyn4
          refine Owned_sep S (by (repeat (first
                | exact Gr.refl _ _
                | refine Gr.setNew ?_ (by first | exact Nat.le_refl _ | (simp only [newB_length, List.length_set, List.length_append, List.length_singleton]; omega) | omega) _
                | refine Gr.addN ?_ _
                ))) _ false true false (Nat.le_refl _) (get_set (get_old (get_set get_new))) (by simp; omega) _ fun σ' hE => ?_
          skip
          all_goals (conv => whnf)
          all_goals (try dsimp only)
          refine Bits_call c l hl (Looks.is _ _ _) fun H5 hg5 => ?_
          skip
          all_goals (conv => whnf)
          all_goals (try dsimp only)
          refine RBits_call c l hl (Looks.is _ _ _) fun H6 hg6 => ?_
          repeat' (first
            | ((with_reducible refine Side.intro ?_) <;> (first
            | (simp only [List.append_nil, List.nil_append, List.map_nil]; first | exact List.nodup_nil | exact nodup_bid1 _ | exact nodup_bid2 (by assumption))
            | ((first | refine fresh_tup ?_ | skip); (repeat (first |  exact FreshA.sl _ _ FreshA_bs | exact FreshA.sl _ _ FreshA_is | exact FreshA.nils | exact FreshA.nilp | exact FreshA.int _ _ | exact FreshA.bool _ | exact FreshA.str _ | exact fresh_nil | refine fresh_cons ?_ ?_ | with_reducible refine fresh_aggR ?_ | with_reducible refine fresh_agg ?_ | with_reducible exact fresh_nilA | with_reducible refine fresh_consA ?_ ?_)); done)
            ))
            | ((conv => whnf) <;> (first
            | (with_reducible refine and_same ?_)
            | (with_reducible refine and_side ?_ ?_)
            | (with_reducible refine Br.yes rfl ?_)
            | (with_reducible refine NOut.lit ?_)
            ))
            )
          all_goals (conv => whnf)
          all_goals (try dsimp only)
          all_goals first
            | exact ret_bool rfl
            | trace_state
    · repeat' (first
        | ((with_reducible refine Side.intro ?_) <;> (first
        | (simp only [List.append_nil, List.nil_append, List.map_nil]; first | exact List.nodup_nil | exact nodup_bid1 _ | exact nodup_bid2 (by assumption))
        | ((first | refine fresh_tup ?_ | skip); (repeat (first |  exact FreshA.sl _ _ FreshA_bs | exact FreshA.sl _ _ FreshA_is | exact FreshA.nils | exact FreshA.nilp | exact FreshA.int _ _ | exact FreshA.bool _ | exact FreshA.str _ | exact fresh_nil | refine fresh_cons ?_ ?_ | with_reducible refine fresh_aggR ?_ | with_reducible refine fresh_agg ?_ | with_reducible exact fresh_nilA | with_reducible refine fresh_consA ?_ ?_)); done)
        ))
        | ((conv => whnf) <;> (first
        | (with_reducible refine and_same ?_)
        | (with_reducible refine and_side ?_ ?_)
        | ((with_reducible apply Br.yes) ; (focus omega))
        | (with_reducible refine NOut.lit ?_)
        | (with_reducible refine lenR_sl ?_)
        ))
        )
      all_goals (conv => whnf)
      all_goals (try dsimp only)
      exact ret_bool rfl
end Go.Proofs.Ytabdieanlhecoaa
