import Derived.Test.YtjbfdhnfdehdeaaPlaw11
namespace Go.Proofs.Ytjbfdhnfdehdeaa
open Go Go.Proofs.Ytjbfdhnfdehdeaa.V
set_option maxRecDepth 20000
attribute [local irreducible] CallS AOK AOKn ALoop Side Ref.ok
theorem tr_len {fr to : Int} {b : List UInt8} {hs : List Int} : (trU fr to b hs).length ≤ 2048 ∧ (trD fr to b hs).length ≤ 2048 ∧ ∀ d, d ∈ trD fr to b hs → d.length ≤ b.length := by
  cases h : trOk fr to b hs
  · rw [(tr_no h).1, (tr_no h).2]; simp
  · rw [(tr_yes h).1, (tr_yes h).2]
    obtain ⟨hB, _⟩ := trOk_iff.1 h
    obtain ⟨b1, b2, b3, _⟩ := bG_iff.1 hB
    obtain ⟨w1, w2, w3⟩ := tr_bd (b := b) b1 b3
    exact ⟨w1, by omega, w3⟩
set_option maxHeartbeats 4000000 in
theorem TagsReads_ok (fr to : Int) (b : List UInt8) (hs : List Int) (hb : b.length ≤ 4611686018) (hhs : hs.length ≤ 4611686018) : AOKn Try.prog F.joistlaw11_TagsReads [.int .i64 fr, .int .i64 to, .sl 1 (bs b) false, .sl 1 (is hs) false] fun y => y = .bool true := by
  have hbn := bs_length b
  refine AOKn.by_steps mixed fc_joistlaw11_TagsReads_ok (by simp [fc_joistlaw11_TagsReads]) ?_
  skip
  all_goals (conv => whnf)
  all_goals (try dsimp only)
  refine small_call fun H1 hg1 => ?_
  by_cases hbl : b.length ≤ 32768
  · repeat' (first
      | ((conv => whnf) <;> (first
      | (with_reducible refine and_same ?_)
      | ((with_reducible apply Br.no) ; (focus omega))
      | (with_reducible refine lenR_sl ?_)
      ))
      )
    all_goals (conv => whnf)
    all_goals (try dsimp only)
    refine Lent_val H1 b false (by omega) _ ?_
    generalize hσ : H1 ++ [{ sz := 1, els := bs (b ++ [77]), gen := 0, wr := true, pure := true }] = H0
    have hblk : H0[H1.length]? = some { sz := 1, els := bs (b ++ [77]), gen := 0, wr := true, pure := true } := by rw [← hσ]; exact get_new
    have hin : Own H0 1 (.rsl H1.length 0 0 b.length none) (bs b) := .mk' (sp := bs [77]) hblk (by rw [bs_length]) (by rw [bs_append])
    have raw : UseRaw := ⟨⟩
    obtain ⟨l1, l2, l3⟩ := tr_len (fr := fr) (to := to) (b := b) (hs := hs)
    skip
    all_goals (conv => whnf)
    all_goals (try dsimp only)
    refine TRead_call fr to b hs hb hhs (.ownbs hin) (Looks.isv _ _ _) fun H2 c d xs hg2 hc hd hsp hcn hdn hxn hcd hcx hdx => ?_
    have hin2 := hin.keepN hg2
    replace hblk := hg2.2 H1.length _ (by (first
          | ((repeat (first
          | assumption
          )); done)
          )) (by simp)
    skip
    all_goals (conv => whnf)
    all_goals (try dsimp only)
    refine Kept_val _ b _ _ [] _ (by omega) hblk _ ?_
    skip
    all_goals (conv => whnf)
    all_goals (try dsimp only)
    refine RRead_call fr to b hs hb hhs (.bs _ _ _) (Looks.isv _ _ _) fun H3 m f hg3 hm hf => ?_
    replace hin2 := hin2.keepN hg3
    replace hc := hc.keepN hg3
    replace hd := NestR.keepN hg3 hd
    replace hsp := hsp.keepN hg3
    skip
    all_goals (conv => whnf)
    all_goals (try dsimp only)
    refine BSame_call _ _ (by omega) (by omega) (Looks.ownbk hc) (Looks.ownbk hm) fun H4 hg4 => ?_
    rw [decide_eq_true rfl]
    replace hin2 := hin2.keepN hg4
    replace hd := NestR.keepN hg4 hd
    replace hsp := hsp.keepN hg4
    replace hf := hf.keepN hg4
    skip
    all_goals (conv => whnf)
    all_goals (try dsimp only)
    refine SameRows_call _ _ (by omega) (by omega) (looks_xs hd hsp) (Looks.owndat hf) fun H5 hg5 => ?_
    rw [decide_eq_true rfl]
    replace hin2 := hin2.keepN hg5
    replace hd := NestR.keepN hg5 hd
    replace hsp := hsp.keepN hg5
    have hxl : xs.length ≤ 2048 := by rw [hsp.len]; exact l2
    repeat' (first
      | ((with_reducible refine Side.intro ?_) <;> (first
      | omega
      ))
      | ((conv => whnf) <;> (first
      | (with_reducible refine and_side ?_ ?_)
      | ((with_reducible apply AppC.raw) ; (focus assumption))
      ))
      )
    all_goals (conv => whnf)
    all_goals (try dsimp only)
    refine NestR.rowsW (NestR.keepN (Gr.append _ _) hd) fun p => ?_
    refine appI_rsl get_new rfl rfl rfl (by simp) (by simp; omega) ?_
    dsimp only
    repeat' (first
      | ((with_reducible refine Side.intro ?_) <;> (first
      | omega
      | exact Nat.le_of_ble_eq_true rfl
      | exact rfl
      ))
      | ((conv => whnf) <;> (first
      | (with_reducible refine and_same ?_)
      | (with_reducible refine and_side ?_ ?_)
      | ((with_reducible apply blkAt_intro) ; (focus (first
      | ((repeat (first
      | exact get_new
      )); done)
      )) ; (focus (first | rfl | assumption | omega)) ; (try dsimp only))
      | ((with_reducible apply AppC.raw) ; (focus assumption))
      | (with_reducible refine rowsR_rsl ?_)
      ))
      )
    all_goals (conv => whnf)
    all_goals (try dsimp only)
    refine appI_rsl (get_old (get_set get_new)) rfl rfl rfl (by simp) (by simp; omega) ?_
    dsimp only
    have e1 : List.take (0 + (xs.map fun x => [x]).length) (List.take 0 (List.replicate 0 [AV.nils]) ++ xs.map fun x => [x]) ++ List.take 1 (List.drop 0 ((List.replicate 1 [AV.nils]).set 0 (AV.rsl (List.length H1) 0 0 b.length none).cells)) = (xs ++ [AV.rsl H1.length 0 0 b.length none]).map fun x => [x] := by
      rw [Nat.zero_add, List.take_zero, List.nil_append, List.take_length]
      simp [AV.cells]
    have e2 : 0 + (xs.map fun x => [x]).length + (List.take 1 (List.drop 0 ((List.replicate 1 [AV.nils]).set 0 (AV.rsl (List.length H1) 0 0 b.length none).cells))).length = (xs ++ [AV.rsl H1.length 0 0 b.length none]).length := by
      simp
    rw [e1, e2]
    skip
    all_goals (conv => whnf)
    all_goals (try dsimp only)
    have hl01 : H1.length < H0.length := by rw [← hσ]; simp
    have S := hsp.snoc hin2 (fun y hy => by
      cases hb : y.bid with
      | none => exact .inl rfl
      | some a =>
        right
        intro e
        have := hxn y hy a hb
        cases e
        omega)
    refine Owned_sep S (by (repeat (first
          | exact Gr.refl _ _
          | refine Gr.setNew ?_ (by first | exact Nat.le_refl _ | (simp only [newB_length, List.length_set, List.length_append, List.length_singleton]; omega) | omega) _
          | refine Gr.addN ?_ _
          ))) _ false true false (Nat.le_refl _) (get_set (get_old (get_set get_new))) (by simp; omega) _ fun σ' hE => ?_
    repeat' (first
      | ((with_reducible refine Side.intro ?_) <;> (first
      | (simp only [List.append_nil, List.nil_append, List.map_nil]; first | exact List.nodup_nil | exact nodup_bid1 _ | exact nodup_bid2 (by assumption))
      | ((first | refine fresh_tup ?_ | skip); (repeat (first |  exact FreshA.sl _ _ FreshA_bs | exact FreshA.sl _ _ FreshA_is | exact FreshA.nils | exact FreshA.nilp | exact FreshA.int _ _ | exact FreshA.bool _ | exact FreshA.str _ | exact fresh_nil | refine fresh_cons ?_ ?_ | with_reducible refine fresh_aggR ?_ | with_reducible refine fresh_agg ?_ | with_reducible exact fresh_nilA | with_reducible refine fresh_consA ?_ ?_)); done)
      ))
      | ((conv => whnf) <;> (first
      | (with_reducible refine and_side ?_ ?_)
      | (with_reducible refine Br.yes rfl ?_)
      | (with_reducible refine NOut.lit ?_)
      ))
      )
    all_goals (conv => whnf)
    all_goals (try dsimp only)
    exact ret_bool rfl
  · repeat' (first
      | ((with_reducible refine Side.intro ?_) <;> (first
      | (simp only [List.append_nil, List.nil_append, List.map_nil]; first | exact List.nodup_nil | exact nodup_bid1 _ | exact nodup_bid2 (by assumption))
      | ((first | refine fresh_tup ?_ | skip); (repeat (first |  exact FreshA.sl _ _ FreshA_bs | exact FreshA.sl _ _ FreshA_is | exact FreshA.nils | exact FreshA.nilp | exact FreshA.int _ _ | exact FreshA.bool _ | exact FreshA.str _ | exact fresh_nil | refine fresh_cons ?_ ?_ | with_reducible refine fresh_aggR ?_ | with_reducible refine fresh_agg ?_ | with_reducible exact fresh_nilA | with_reducible refine fresh_consA ?_ ?_)); done)
      ))
      | ((conv => whnf) <;> (first
      | (with_reducible refine and_same ?_)
      | (with_reducible refine and_side ?_ ?_)
      | ((with_reducible apply Br.yes) ; (focus omega))
      | (with_reducible refine NOut.lit ?_)
      | (with_reducible refine lenR_sl ?_)
      ))
      )
    all_goals (conv => whnf)
    all_goals (try dsimp only)
    exact ret_bool rfl
set_option maxHeartbeats 4000000 in
theorem TagsWrites_ok (fr to : Int) (U : List (Int × Int × Int)) (D : List (List UInt8)) (sz : Int) (hU : U.length ≤ 4611686018) (hD : D.length ≤ 4611686018) (hd : ∀ d, d ∈ D → d.length ≤ 4611686018) : AOKn Try.prog F.joistlaw11_TagsWrites [.int .i64 fr, .int .i64 to, .sl 3 (bk U) false, .sl 1 (dat D) false, .int .i64 sz] fun y => y = .bool true := by
  have hln := bk_length U
  have hDn := dat_length D
  refine AOKn.by_steps mixed fc_joistlaw11_TagsWrites_ok (by simp [fc_joistlaw11_TagsWrites]) ?_
  skip
  all_goals (conv => whnf)
  all_goals (try dsimp only)
  refine small_call fun H1 hg1 => ?_
  skip
  all_goals (conv => whnf)
  all_goals (try dsimp only)
  refine few_call D hD hd (Looks.dat _ _ _) fun H2 hg2 => ?_
  cases hf : fewB D
  · repeat' (first
      | ((with_reducible refine Side.intro ?_) <;> (first
      | (simp only [List.append_nil, List.nil_append, List.map_nil]; first | exact List.nodup_nil | exact nodup_bid1 _ | exact nodup_bid2 (by assumption))
      | ((first | refine fresh_tup ?_ | skip); (repeat (first |  exact FreshA.sl _ _ FreshA_bs | exact FreshA.sl _ _ FreshA_is | exact FreshA.nils | exact FreshA.nilp | exact FreshA.int _ _ | exact FreshA.bool _ | exact FreshA.str _ | exact fresh_nil | refine fresh_cons ?_ ?_ | with_reducible refine fresh_aggR ?_ | with_reducible refine fresh_agg ?_ | with_reducible exact fresh_nilA | with_reducible refine fresh_consA ?_ ?_)); done)
      ))
      | ((conv => whnf) <;> (first
      | (with_reducible refine and_side ?_ ?_)
      | (with_reducible refine NOut.lit ?_)
      ))
      )
    all_goals (conv => whnf)
    all_goals (try dsimp only)
    exact ret_bool rfl
  · by_cases h60 : U.length ≤ 60
    · have raw : UseRaw := ⟨⟩
      have hf2 : D.length ≤ 60 := by
        simp only [fewB, Bool.and_eq_true, decide_eq_true_eq] at hf
        exact hf.2
      repeat' (first
        | ((conv => whnf) <;> (first
        | (with_reducible refine and_same ?_)
        | ((with_reducible apply Br.no) ; (focus omega))
        | (with_reducible refine lenR_sl ?_)
        ))
        )
      all_goals (conv => whnf)
      all_goals (try dsimp only)
      refine loop_at (α := Nat × AH × AV × List AV) (fun a => [(13, a.2.2.1), (14, .int .i64 a.1)]) (fun a => a.2.1) (fun a => a.1 ≤ D.length ∧ NestS a.2.1 a.2.2.1 a.2.2.2 ∧ Sep a.2.1 a.2.2.2 (D.take a.1) ∧ Lents a.2.1 a.2.2.2 (D.take a.1) ∧ Off a.2.2.1 a.2.2.2) (fun a => D.length - a.1) (0, H2, .nils, []) ⟨Nat.zero_le _, NestR.nil _ _, Sep.nil _, Lents.nil _, fun y hy => by simp at hy⟩ rfl rfl ?_
      rintro ⟨i, σ, ia, xs⟩ ⟨hi, hia, hsp, hle, hoff⟩
      dsimp only at hi hia hsp hle hoff ⊢
      have hxl : xs.length = i := by rw [hsp.len, List.length_take]; omega
      by_cases hlt : i < D.length
      · obtain ⟨d, hdd, hdd'⟩ := getN (l := D) (k := i) (by omega)
        have hdm := hd d (List.mem_of_getElem? hdd')
        repeat' (first
          | ((with_reducible refine Side.intro ?_) <;> (first
          | omega
          ))
          | ((conv => whnf) <;> (first
          | (with_reducible refine and_same ?_)
          | ((with_reducible apply Br.yes) ; (focus omega))
          | ((with_reducible apply nthR_dat) ; (focus assumption))
          | (with_reducible refine ia_sl ?_ ?_)
          | (with_reducible refine lenR_sl ?_)
          ))
          )
        all_goals (conv => whnf)
        all_goals (try dsimp only)
        refine Lent_val σ d false (by omega) _ ?_
        repeat' (first
          | ((with_reducible refine Side.intro ?_) <;> (first
          | omega
          | exact Nat.le_of_ble_eq_true rfl
          | exact rfl
          ))
          | ((conv => whnf) <;> (first
          | (with_reducible refine and_same ?_)
          | (with_reducible refine and_side ?_ ?_)
          | ((with_reducible apply blkAt_intro) ; (focus (first
          | ((repeat (first
          | exact get_new
          )); done)
          )) ; (focus (first | rfl | assumption | omega)) ; (try dsimp only))
          | ((with_reducible apply AppC.raw) ; (focus assumption))
          | (with_reducible refine rowsR_rsl ?_)
          ))
          )
        all_goals (conv => whnf)
        all_goals (try dsimp only)
        have hxb : ∀ w, w ∈ xs → w.bid = none ∨ w.bid ≠ some σ.length := hsp.apart (y := .rsl σ.length 0 0 0 none) (fun id h => by cases h; exact Nat.le_refl _)
        have hib : (AV.rsl σ.length 0 0 d.length none).bid = none ∨ (AV.rsl σ.length 0 0 d.length none).bid ≠ ia.bid := hia.apart fun id h => by cases h; exact Nat.le_refl _
        refine NestS.append (xs := xs) (x := .rsl σ.length 0 0 d.length none) (NestR.keepN (by (repeat (first
              | exact Gr.refl _ _
              | refine Gr.addN ?_ _
              ))) hia) (by omega) (fun id hi => by cases hi; simp only [newB_length, List.length_append, List.length_singleton]; omega) hib ?_
        intro ia' σ' hia' hg' hb'
        have hblk : σ'[σ.length]? = some { sz := 1, els := bs (d ++ [77]), gen := 0, wr := true, pure := true } := hg'.2 _ _ (get_old get_new) (by
          intro e
          rcases hib with q | q
          · cases q
          · exact q e.symm)
        have hsp' : Sep σ' xs (D.take i) := Sep.keep (Sep.keepN (by (repeat (first
              | exact Gr.refl _ _
              | refine Gr.addN ?_ _
              ))) hsp) hg' hoff.keepd
        have hle' : Lents σ' xs (D.take i) := Lents.keep (Lents.keepN hle (by (repeat (first
              | exact Gr.refl _ _
              | refine Gr.addN ?_ _
              )))) hg' hoff.keepd
        have A2 : Off ia' (xs ++ [.rsl σ.length 0 0 d.length none]) := by
          rcases hb' with q | q
          · exact (hoff.snoc hib).same q
          · refine Off.snoc (Off.new hsp q (by simp [newB_length]; omega)) ?_
            rw [q]
            right
            simp only [AV.bid, newB_length, List.length_append, List.length_singleton, ne_eq, Option.some.injEq]
            omega
        repeat' (first
          | ((conv => whnf) <;> (first
          | (with_reducible refine and_same ?_)
          | ((with_reducible apply Br.yes) ; (focus omega))
          ))
          )
        all_goals (conv => whnf)
        all_goals (try dsimp only)
        refine ⟨(i + 1, σ', ia', xs ++ [.rsl σ.length 0 0 d.length none]), rfl, rfl, ⟨by dsimp only; omega, hia', ?_, ?_, A2⟩, by dsimp only; omega⟩
        · dsimp only
          rw [List.take_add_one, hdd']
          exact Sep.snoc hsp' (.mk' (sp := bs [77]) hblk (by rw [bs_length]) (by rw [bs_append])) hxb
        · dsimp only
          rw [List.take_add_one, hdd']
          exact Lents.snoc hsp'.len hle' hblk
      · have hil : i = D.length := by omega
        subst hil
        rw [List.take_length] at hsp hle
        repeat' (first
          | ((conv => whnf) <;> (first
          | (with_reducible refine and_same ?_)
          | ((with_reducible apply Br.no) ; (focus omega))
          | (with_reducible refine lenR_sl ?_)
          ))
          )
        all_goals (conv => whnf)
        all_goals (try dsimp only)
        refine TWrite_call fr to U D (by omega) (by omega) hd (Looks.bk _ _ _) (looks_xs hia hsp) fun H3 y h hg3 hy hh hyn hhn hyh => ?_
        have hyn4 := hsp.apart hyn
        replace hia := NestR.keepN hg3 hia
        replace hsp := hsp.keepN hg3
        replace hle := hle.keepN hg3
        skip
        all_goals (conv => whnf)
        all_goals (try dsimp only)
        refine RWrite_call fr to U D (by omega) (by omega) hd (Looks.bk _ _ _) (Looks.dat _ _ _) fun H4 z h2 hg4 hz hh2 hzn hhn2 hzh => ?_
        replace hia := NestR.keepN hg4 hia
        replace hsp := hsp.keepN hg4
        replace hle := hle.keepN hg4
        replace hy := hy.keepN hg4
        replace hh := hh.keepN hg4
        skip
        all_goals (conv => whnf)
        all_goals (try dsimp only)
        refine loop_at (α := Nat) (fun a => [(21, .int .i64 a)]) (fun _ => H4) (fun a => a ≤ D.length) (fun a => D.length - a) 0 (Nat.zero_le _) rfl rfl ?_
        intro i hi
        have hxm : (xs.map fun x => [x]).length = D.length := by rw [List.length_map]; omega
        by_cases hlt : i < D.length
        · obtain ⟨d, hdd, hdd'⟩ := getN (l := D) (k := i) (by omega)
          have hdm := hd d (List.mem_of_getElem? hdd')
          obtain ⟨x, hx, hx'⟩ := getN (l := xs) (k := i) (by omega)
          obtain ⟨id, rfl, hb⟩ := hle i x d hx' hdd'
          repeat' (first
            | ((with_reducible refine Side.intro ?_) <;> (first
            | omega
            ))
            | ((conv => whnf) <;> (first
            | (with_reducible refine and_same ?_)
            | ((with_reducible apply Br.yes) ; (focus omega))
            | ((with_reducible apply blkAt_intro) ; (focus (first
            | ((repeat (first
            | assumption
            )); done)
            )) ; (focus (first | rfl | assumption | omega)) ; (try dsimp only))
            | ((with_reducible apply nthR_dat) ; (focus assumption))
            | (with_reducible refine ia_sl ?_ ?_)
            | ((with_reducible apply NestR.ia) ; (focus assumption))
            | ((with_reducible apply NestR.lenW) ; (focus assumption))
            | ((with_reducible apply nest_nth) ; (focus assumption))
            | (with_reducible intro _)
            ))
            )
          all_goals (conv => whnf)
          all_goals (try dsimp only)
          refine Kept_val H4 d id 0 [] false (by omega) hb _ ?_
          repeat' (first
            | ((conv => whnf) <;> (first
            | (with_reducible refine and_same ?_)
            | ((with_reducible apply Br.yes) ; (focus omega))
            ))
            )
          all_goals (conv => whnf)
          all_goals (try dsimp only)
          exact ⟨i + 1, rfl, rfl, by omega, by omega⟩
        · have hil : i = D.length := by omega
          subst hil
          have hhl : (twH fr to U D).length ≤ 7 := by
            unfold twH
            split <;> simp [hdsL]
          repeat' (first
            | ((conv => whnf) <;> (first
            | (with_reducible refine and_same ?_)
            | (with_reducible refine Br.yes rfl ?_)
            | ((with_reducible apply Br.no) ; (focus omega))
            | ((with_reducible apply rowsR_own) ; (focus assumption))
            | ((with_reducible apply NestR.lenW) ; (focus assumption))
            | ((with_reducible apply bytesR_intro) ; (focus (first | rfl | (simp only [bs_take, bs_drop, bs_append]; rfl))))
            ))
            )
          all_goals (conv => whnf)
          all_goals (try dsimp only)
          refine Same_call _ _ (by omega) (by omega) (Looks.ownis hh) (Looks.ownis hh2) fun H5 hg5 => ?_
          rw [decide_eq_true rfl]
          replace hia := NestR.keepN hg5 hia
          replace hsp := hsp.keepN hg5
          replace hy := hy.keepN hg5
          repeat' (first
            | ((with_reducible refine Side.intro ?_) <;> (first
            | omega
            ))
            | ((conv => whnf) <;> (first
            | (with_reducible refine and_side ?_ ?_)
            | ((with_reducible apply AppC.raw) ; (focus assumption))
            ))
            )
          all_goals (conv => whnf)
          all_goals (try dsimp only)
          refine NestR.rowsW (NestR.keepN (Gr.append _ _) hia) fun p => ?_
          refine appI_rsl get_new rfl rfl rfl (by simp) (by simp; omega) ?_
          dsimp only
          obtain ⟨ox1, ox2, ox3⟩ := hy.one
          repeat' (first
            | ((with_reducible refine Side.intro ?_) <;> (first
            | omega
            | exact Nat.le_of_ble_eq_true rfl
            ))
            | ((conv => whnf) <;> (first
            | (with_reducible refine and_same ?_)
            | (with_reducible refine and_side ?_ ?_)
            | ((with_reducible apply blkAt_intro) ; (focus (first
            | ((repeat (first
            | exact get_new
            )); done)
            )) ; (focus (first | rfl | assumption | omega)) ; (try dsimp only))
            | ((with_reducible apply AppC.raw) ; (focus assumption))
            | (with_reducible refine rowsR_rsl ?_)
            ))
            )
          all_goals (conv => whnf)
          all_goals (try dsimp only)
          refine appI_rsl (get_old (get_set get_new)) rfl rfl rfl (by simp) (by simp [ox1]; omega) ?_
          dsimp only
          have e1 : List.take (0 + (xs.map fun x => [x]).length) (List.take 0 (List.replicate 0 [AV.nils]) ++ xs.map fun x => [x]) ++ List.take 1 (List.drop 0 ((List.replicate 1 [AV.nils]).set 0 y.cells)) = (xs ++ [y]).map fun x => [x] := by
            rw [Nat.zero_add, List.take_zero, List.nil_append, List.take_length]
            simp [ox1]
          have e2 : 0 + (xs.map fun x => [x]).length + (List.take 1 (List.drop 0 ((List.replicate 1 [AV.nils]).set 0 y.cells))).length = (xs ++ [y]).length := by
            simp
          rw [e1, e2]
          skip
          all_goals (conv => whnf)
          all_goals (try dsimp only)
          have S := hsp.snoc hy hyn4
          refine Owned_sep S (by (repeat (first
                | exact Gr.refl _ _
                | refine Gr.setNew ?_ (by first | exact Nat.le_refl _ | (simp only [newB_length, List.length_set, List.length_append, List.length_singleton]; omega) | omega) _
                | refine Gr.addN ?_ _
                ))) _ false true false (Nat.le_refl _) (get_set (get_old (get_set get_new))) (by simp; omega) _ fun σ' hE => ?_
          skip
          all_goals (conv => whnf)
          all_goals (try dsimp only)
          refine List_call sz fun H6 hg6 => ?_
          skip
          all_goals (conv => whnf)
          all_goals (try dsimp only)
          refine RList_call sz fun H7 hg7 => ?_
          repeat' (first
            | ((with_reducible refine Side.intro ?_) <;> (first
            | (simp only [List.append_nil, List.nil_append, List.map_nil]; first | exact List.nodup_nil | exact nodup_bid1 _ | exact nodup_bid2 (by assumption))
            | ((first | refine fresh_tup ?_ | skip); (repeat (first |  exact FreshA.sl _ _ FreshA_bs | exact FreshA.sl _ _ FreshA_is | exact FreshA.nils | exact FreshA.nilp | exact FreshA.int _ _ | exact FreshA.bool _ | exact FreshA.str _ | exact fresh_nil | refine fresh_cons ?_ ?_ | with_reducible refine fresh_aggR ?_ | with_reducible refine fresh_agg ?_ | with_reducible exact fresh_nilA | with_reducible refine fresh_consA ?_ ?_)); done)
            ))
            | ((conv => whnf) <;> (first
            | (with_reducible refine and_same ?_)
            | (with_reducible refine and_side ?_ ?_)
            | (with_reducible refine Br.yes rfl ?_)
            | (with_reducible refine NOut.lit ?_)
            ))
            )
          all_goals (conv => whnf)
          all_goals (try dsimp only)
          all_goals first
            | exact ret_bool rfl
            | trace_state
    · repeat' (first
        | ((with_reducible refine Side.intro ?_) <;> (first
        | (simp only [List.append_nil, List.nil_append, List.map_nil]; first | exact List.nodup_nil | exact nodup_bid1 _ | exact nodup_bid2 (by assumption))
        | ((first | refine fresh_tup ?_ | skip); (repeat (first |  exact FreshA.sl _ _ FreshA_bs | exact FreshA.sl _ _ FreshA_is | exact FreshA.nils | exact FreshA.nilp | exact FreshA.int _ _ | exact FreshA.bool _ | exact FreshA.str _ | exact fresh_nil | refine fresh_cons ?_ ?_ | with_reducible refine fresh_aggR ?_ | with_reducible refine fresh_agg ?_ | with_reducible exact fresh_nilA | with_reducible refine fresh_consA ?_ ?_)); done)
        ))
        | ((conv => whnf) <;> (first
        | (with_reducible refine and_same ?_)
        | (with_reducible refine and_side ?_ ?_)
        | ((with_reducible apply Br.yes) ; (focus omega))
        | (with_reducible refine NOut.lit ?_)
        | (with_reducible refine lenR_sl ?_)
        ))
        )
      all_goals (conv => whnf)
      all_goals (try dsimp only)
      exact ret_bool rfl
end Go.Proofs.Ytjbfdhnfdehdeaa
