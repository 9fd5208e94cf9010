import Derived.Test.YtabdieanlhecoaaPslab4
import Derived.Test.YtabdieanlhecoaaPslabq
namespace Go.Proofs.Ytabdieanlhecoaa
open Go Go.Proofs.Ytabdieanlhecoaa.V
set_option maxRecDepth 20000
attribute [local irreducible] CallS AOK AOKn ALoop Side Ref.ok
def fewB (D : List (List UInt8)) : Bool := (D.all fun d => decide (d.length ≤ 4096)) && decide (D.length ≤ 60)
theorem few_ok (D : List (List UInt8)) (hD : D.length ≤ 4611686018) (hd : ∀ d, d ∈ D → d.length ≤ 4611686018) : AOKn Try.prog F.joistlaw15_few [.sl 1 (dat D) false] fun y => y = .bool (fewB D) := by
  have hDn := dat_length D
  refine AOKn.by_steps mixed fc_joistlaw15_few_ok (by simp [fc_joistlaw15_few]) ?_
  have hex : ∀ i, (D.take i).all (fun d => decide (d.length ≤ 4096)) = true ∨ (D.all fun d => decide (d.length ≤ 4096)) = false := fun i => by
    cases h : D.all fun d => decide (d.length ≤ 4096)
    · exact .inr rfl
    · left
      rw [List.all_eq_true] at h ⊢
      exact fun x hx => h x (List.mem_of_mem_take hx)
  skip
  all_goals (conv => whnf)
  all_goals (try dsimp only)
  refine loop_at (α := Nat) (fun i => [(3, .int .i64 i)]) (fun _ => []) (fun i => i ≤ D.length ∧ ∀ d, d ∈ D.take i → d.length ≤ 4096) (fun i => D.length - i) 0 ⟨Nat.zero_le _, by simp⟩ rfl rfl ?_
  rintro i ⟨hi, hs⟩
  by_cases hlt : i < D.length
  · obtain ⟨d, hdd, hdd'⟩ := getN hlt
    have hdl := bs_length d
    have hdb := hd d (List.mem_of_getElem? hdd')
    by_cases hsm : d.length ≤ 4096
    · repeat' (first
        | ((with_reducible refine Side.intro ?_) <;> (first
        | omega
        ))
        | ((conv => whnf) <;> (first
        | (with_reducible refine and_same ?_)
        | ((with_reducible apply Br.yes) ; (focus omega))
        | ((with_reducible apply Br.no) ; (focus omega))
        | ((with_reducible apply nthR_dat) ; (focus assumption))
        | (with_reducible refine ia_sl ?_ ?_)
        | (with_reducible refine lenR_sl ?_)
        ))
        )
      all_goals (conv => whnf)
      all_goals (try dsimp only)
      refine ⟨i + 1, rfl, rfl, ⟨by omega, fun e he => ?_⟩, by omega⟩
      rw [List.take_add_one, hdd'] at he
      rcases List.mem_append.1 he with q | q
      · exact hs e q
      · simp only [Option.toList_some, List.mem_singleton] at q
        rw [q]; exact hsm
    · have e : fewB D = false := by
        rw [fewB, List.all_eq_false.2 ⟨d, List.mem_of_getElem? hdd', by simpa using hsm⟩]; rfl
      rw [e]
      repeat' (first
        | ((with_reducible refine Side.intro ?_) <;> (first
        | omega
        | (simp only [List.append_nil, List.nil_append, List.map_nil]; first | exact List.nodup_nil | exact nodup_bid1 _ | exact nodup_bid2 (by assumption))
        | ((first | refine fresh_tup ?_ | skip); (repeat (first |  exact FreshA.sl _ _ FreshA_bs | exact FreshA.sl _ _ FreshA_is | exact FreshA.nils | exact FreshA.nilp | exact FreshA.int _ _ | exact FreshA.bool _ | exact FreshA.str _ | exact fresh_nil | refine fresh_cons ?_ ?_ | with_reducible refine fresh_aggR ?_ | with_reducible refine fresh_agg ?_ | with_reducible exact fresh_nilA | with_reducible refine fresh_consA ?_ ?_)); done)
        ))
        | ((conv => whnf) <;> (first
        | (with_reducible refine and_same ?_)
        | (with_reducible refine and_side ?_ ?_)
        | ((with_reducible apply Br.yes) ; (focus omega))
        | ((with_reducible apply nthR_dat) ; (focus assumption))
        | (with_reducible refine ia_sl ?_ ?_)
        | (with_reducible refine NOut.lit ?_)
        | (with_reducible refine lenR_sl ?_)
        ))
        )
      all_goals (conv => whnf)
      all_goals (try dsimp only)
      exact ret_bool rfl
  · have hil : i = D.length := by omega
    subst hil
    rw [List.take_length] at hs
    have e : fewB D = decide (D.length ≤ 60) := by
      rw [fewB, List.all_eq_true.2 fun d hd => decide_eq_true (hs d hd)]; rfl
    rw [e]
    by_cases h60 : D.length ≤ 60
    · rw [decide_eq_true h60]
      repeat' (first
        | ((with_reducible refine Side.intro ?_) <;> (first
        | (simp only [List.append_nil, List.nil_append, List.map_nil]; first | exact List.nodup_nil | exact nodup_bid1 _ | exact nodup_bid2 (by assumption))
        | ((first | refine fresh_tup ?_ | skip); (repeat (first |  exact FreshA.sl _ _ FreshA_bs | exact FreshA.sl _ _ FreshA_is | exact FreshA.nils | exact FreshA.nilp | exact FreshA.int _ _ | exact FreshA.bool _ | exact FreshA.str _ | exact fresh_nil | refine fresh_cons ?_ ?_ | with_reducible refine fresh_aggR ?_ | with_reducible refine fresh_agg ?_ | with_reducible exact fresh_nilA | with_reducible refine fresh_consA ?_ ?_)); done)
        ))
        | ((conv => whnf) <;> (first
        | (with_reducible refine and_same ?_)
        | (with_reducible refine and_side ?_ ?_)
        | ((with_reducible apply Br.yes) ; (focus omega))
        | ((with_reducible apply Br.no) ; (focus omega))
        | (with_reducible refine NOut.lit ?_)
        | (with_reducible refine lenR_sl ?_)
        ))
        )
      all_goals (conv => whnf)
      all_goals (try dsimp only)
      all_goals exact ret_bool rfl
    · rw [decide_eq_false h60]
      repeat' (first
        | ((with_reducible refine Side.intro ?_) <;> (first
        | (simp only [List.append_nil, List.nil_append, List.map_nil]; first | exact List.nodup_nil | exact nodup_bid1 _ | exact nodup_bid2 (by assumption))
        | ((first | refine fresh_tup ?_ | skip); (repeat (first |  exact FreshA.sl _ _ FreshA_bs | exact FreshA.sl _ _ FreshA_is | exact FreshA.nils | exact FreshA.nilp | exact FreshA.int _ _ | exact FreshA.bool _ | exact FreshA.str _ | exact fresh_nil | refine fresh_cons ?_ ?_ | with_reducible refine fresh_aggR ?_ | with_reducible refine fresh_agg ?_ | with_reducible exact fresh_nilA | with_reducible refine fresh_consA ?_ ?_)); done)
        ))
        | ((conv => whnf) <;> (first
        | (with_reducible refine and_same ?_)
        | (with_reducible refine and_side ?_ ?_)
        | ((with_reducible apply Br.no) ; (focus omega))
        | (with_reducible refine NOut.lit ?_)
        | (with_reducible refine lenR_sl ?_)
        ))
        )
      all_goals (conv => whnf)
      all_goals (try dsimp only)
      all_goals exact ret_bool rfl
theorem few_call (D : List (List UInt8)) (hD : D.length ≤ 4611686018) (hd : ∀ d, d ∈ D → d.length ≤ 4611686018) {σ : AH} {x : AV} (hx : Looks σ x (.sl 1 (dat D) false)) {Q : AV → AH → Prop} (h : ∀ σ', Gr σ σ' none → Q (.bool (fewB D)) σ') : CallS Try.prog F.joistlaw15_few [x] σ Q :=
  call_one (few_ok D hD hd) (.cons hx .nil) rfl h
theorem cut_bs (P : List UInt8) (sp : List (List AV)) {a n : Nat} (h : a + n ≤ P.length) : List.take n (List.drop a (bs P ++ sp)) = bs ((P.drop a).take n) := by
  have := bs_length P
  rw [List.drop_append_of_le_length (by omega), List.take_append_of_le_length (by rw [List.length_drop]; omega), bs_drop, bs_take]
theorem pt_nil (q : List UInt8) (a : Nat) : pt q a (List.replicate 0 0) = q := by simp [pt]
theorem SlabCells_ok (c : Int) (l : List Int) (D : List (List UInt8)) (nx pv : Int) (hl : l.length ≤ 4611686018) (hD : D.length ≤ 4611686018) (hd : ∀ d, d ∈ D → d.length ≤ 4611686018) : AOKn Try.prog F.joistlaw15_SlabCells [.int .i64 c, .sl 1 (is l) false, .sl 1 (dat D) false, .int .i64 nx, .int .i64 pv] fun y => y = .bool true := by
  have hln := is_length l
  have hDn := dat_length D
  refine AOKn.by_steps mixed fc_joistlaw15_SlabCells_ok (by simp [fc_joistlaw15_SlabCells]) ?_
  skip
  all_goals (conv => whnf)
  all_goals (try dsimp only)
  refine small_call fun H1 hg1 => ?_
  skip
  all_goals (conv => whnf)
  all_goals (try dsimp only)
  refine few_call D hD hd (Looks.dat _ _ _) fun H2 hg2 => ?_
  cases hf : fewB D
  · repeat' (first
      | ((with_reducible refine Side.intro ?_) <;> (first
      | (simp only [List.append_nil, List.nil_append, List.map_nil]; first | exact List.nodup_nil | exact nodup_bid1 _ | exact nodup_bid2 (by assumption))
      | ((first | refine fresh_tup ?_ | skip); (repeat (first |  exact FreshA.sl _ _ FreshA_bs | exact FreshA.sl _ _ FreshA_is | exact FreshA.nils | exact FreshA.nilp | exact FreshA.int _ _ | exact FreshA.bool _ | exact FreshA.str _ | exact fresh_nil | refine fresh_cons ?_ ?_ | with_reducible refine fresh_aggR ?_ | with_reducible refine fresh_agg ?_ | with_reducible exact fresh_nilA | with_reducible refine fresh_consA ?_ ?_)); done)
      ))
      | ((conv => whnf) <;> (first
      | (with_reducible refine and_side ?_ ?_)
      | (with_reducible refine NOut.lit ?_)
      ))
      )
    all_goals (conv => whnf)
    all_goals (try dsimp only)
    exact ret_bool rfl
  · by_cases h60 : l.length ≤ 60
    · repeat' (first
        | ((conv => whnf) <;> (first
        | (with_reducible refine and_same ?_)
        | ((with_reducible apply Br.no) ; (focus omega))
        | (with_reducible refine lenR_sl ?_)
        ))
        )
      all_goals (conv => whnf)
      all_goals (try dsimp only)
      refine SWrite_call c l D nx pv hl hD hd (Looks.is _ _ _) (Looks.dat _ _ _) fun H3 y hg3 hy hyn => ?_
      cases hw : swOk c l D nx pv
      · rw [swR, hw] at hy
        rw [swE, hw, show (if false = true then (0 : Int) else 1) = 1 from rfl]
        have hy0 : Own H3 1 y (bs []) := hy
        clear hy
        repeat' (first
          | ((with_reducible refine Side.intro ?_) <;> (first
          | (simp only [List.append_nil, List.nil_append, List.map_nil]; first | exact List.nodup_nil | exact nodup_bid1 _ | exact nodup_bid2 (by assumption))
          | ((first | refine fresh_tup ?_ | skip); (repeat (first |  exact FreshA.sl _ _ FreshA_bs | exact FreshA.sl _ _ FreshA_is | exact FreshA.nils | exact FreshA.nilp | exact FreshA.int _ _ | exact FreshA.bool _ | exact FreshA.str _ | exact fresh_nil | refine fresh_cons ?_ ?_ | with_reducible refine fresh_aggR ?_ | with_reducible refine fresh_agg ?_ | with_reducible exact fresh_nilA | with_reducible refine fresh_consA ?_ ?_)); done)
          ))
          | ((conv => whnf) <;> (first
          | (with_reducible refine and_same ?_)
          | (with_reducible refine and_side ?_ ?_)
          | (with_reducible refine Br.yes rfl ?_)
          | ((with_reducible apply Br.yes) ; (focus omega))
          | ((with_reducible apply lenR_own) ; (focus assumption))
          | (with_reducible refine NOut.lit ?_)
          ))
          )
        all_goals (conv => whnf)
        all_goals (try dsimp only)
        exact ret_bool rfl
      · have hl256 := swR_len hw
        rw [swE, hw, show (if true = true then (0 : Int) else 1) = 0 from rfl]
        obtain ⟨hL, hi, _, hlD, _⟩ := sw_lay hw
        have hRn := bs_length (swR c l D nx pv)
        have hrest := sw_rest hw
        have hcell := @sw_cell c l D nx pv hw
        have hrl : ((swR c l D nx pv).drop 32).length = 224 := by rw [List.length_drop]; omega
        generalize swR c l D nx pv = P at *
        obtain ⟨idy, geny, spy, rfl, hby⟩ := hy.ne (fun e => by rw [e] at hRn; simp at hRn; omega)
        clear hy
        have hidy := hyn idy rfl
        have l3 := (List.getElem?_eq_some_iff.1 hby).1
        repeat' (first
          | ((with_reducible refine Side.intro ?_) <;> (first
          | omega
          | (simp only [bs_length, List.length_append, List.length_cons, List.length_nil, List.length_take, List.length_drop, List.length_set, List.length_replicate]; omega)
          ))
          | ((conv => whnf) <;> (first
          | (with_reducible refine and_same ?_)
          | (with_reducible refine and_side ?_ ?_)
          | ((with_reducible apply Br.no) ; (focus omega))
          | ((with_reducible apply blkAt_intro) ; (focus (first
          | ((repeat (first
          | assumption
          | apply get_old
          )); done)
          )) ; (focus (first | rfl | assumption | omega)) ; (try dsimp only))
          | ((with_reducible apply appendR_lit) ; (focus (first
          | ((repeat (first
          | exact get_new
          )); done)
          )) ; (focus (first | rfl | assumption)) ; (focus rfl) ; (focus rfl) ; (focus rfl) ; (focus (first | exact Nat.zero_le _ | omega | (simp; done) | (simp; omega))) ; (try dsimp only))
          | (with_reducible refine SliceW.of ?_)
          | (with_reducible refine AppC.frz ?_)
          | (with_reducible refine lenR_rsl ?_)
          | (with_reducible refine rowsR_rsl ?_)
          ))
          )
        all_goals (conv => whnf)
        all_goals (try dsimp only)
        have e : List.take ((((bs P).length : Nat) : Int).toNat - Int.toNat 32) (List.drop (0 + Int.toNat 32) (bs P ++ spy)) = bs (P.drop 32) := by
          rw [List.drop_append_of_le_length (by rw [hRn, hl256]; decide), List.take_left' (by rw [List.length_drop]; rfl), bs_drop]
          rfl
        have hdn := bs_length (P.drop 32)
        rw [e, List.take_zero, List.nil_append]
        refine loop_at (α := Nat × AH) (fun a => [(16, .int .i64 a.1)]) (fun a => a.2) (fun a => a.1 ≤ l.length ∧ a.2[H3.length]? = some { sz := 1, els := bs (clr c (P.drop 32) (l.take a.1) (D.take a.1)), gen := 0 + 1, wr := true, pure := true } ∧ a.2[idy]? = some { sz := 1, els := bs P ++ spy, gen := geny, wr := true, pure := true }) (fun a => l.length - a.1) (0, _) ⟨Nat.zero_le _, get_set get_new, by dsimp only; (first
              | ((repeat (first
              | assumption
              | apply get_old
              | (apply get_set_ne; (focus (first | omega | (simp only [newB_length, List.length_set, List.length_append, List.length_singleton, List.length_nil]; omega))))
              )); done)
              )⟩ rfl rfl ?_
        rintro ⟨i, σ⟩ ⟨hil, hb, hby⟩
        dsimp only at hil hb hby ⊢
        have hcl := clr_length (hL.takes i) hrl
        have hcs := clr_take c l D (P.drop 32) i
        by_cases hlt : i < l.length
        · obtain ⟨k, hk, hk'⟩ := getN hlt
          obtain ⟨d, hdd, hdd'⟩ := getN (l := D) (k := i) (by omega)
          have hce := hL.ce k (List.mem_of_getElem? hk')
          obtain ⟨c1, c2, c3⟩ := cof_bd hce
          have hdl := bs_length d
          have hfit := hL.fit d (List.mem_of_getElem? hdd')
          have hcw := cn_bd c
          have hcd := hcell hk' hdd'
          have eV : ceV c k = 4 + k * cw c := by rw [ceV, hce, if_pos rfl]
          have eE : ceE c k = 0 := by rw [ceE, hce, if_pos rfl]
          repeat' (first
            | ((with_reducible refine Side.intro ?_) <;> (first
            | omega
            ))
            | ((conv => whnf) <;> (first
            | (with_reducible refine and_same ?_)
            | ((with_reducible apply Br.yes) ; (focus omega))
            | ((with_reducible apply nthR_is1) ; (focus assumption))
            | (with_reducible refine ia_sl ?_ ?_)
            | (with_reducible refine lenR_sl ?_)
            ))
            )
          all_goals (conv => whnf)
          all_goals (try dsimp only)
          refine Cell_call c k fun H4 hg4 => ?_
          rw [eV, eE]
          replace hb := hg4.2 H3.length _ (by (first
                | ((repeat (first
                | assumption
                )); done)
                )) (by simp)
          replace hby := hg4.2 idy _ (by (first
                | ((repeat (first
                | assumption
                )); done)
                )) (by simp)
          generalize hX : 4 + k * cw c = X at *
          have hself : ¬ (d ≠ d) := fun h => h rfl
          repeat' (first
            | ((with_reducible refine Side.intro ?_) <;> (first
            | omega
            | (simp only [bs_length, List.length_append, List.length_cons, List.length_nil, List.length_take, List.length_drop, List.length_set, List.length_replicate]; omega)
            ))
            | ((conv => whnf) <;> (first
            | (with_reducible refine and_same ?_)
            | (with_reducible refine and_side ?_ ?_)
            | ((with_reducible apply Br.yes) ; (focus omega))
            | ((with_reducible apply Br.no) ; (focus omega))
            | ((with_reducible apply blkAt_intro) ; (focus (first
            | ((repeat (first
            | assumption
            )); done)
            )) ; (focus (first | rfl | assumption | omega)) ; (try dsimp only))
            | ((with_reducible apply nthR_dat) ; (focus assumption))
            | (with_reducible refine ia_sl ?_ ?_)
            | (with_reducible refine SliceW.of ?_)
            | (with_reducible refine lenR_sl ?_)
            | (with_reducible refine lenR_rsl ?_)
            | (with_reducible refine rowsR_rsl ?_)
            ))
            )
          all_goals (conv => whnf)
          all_goals (try dsimp only)
          rw [show (8 * X + ((bs d).length : Nat)).toNat - (8 * X).toNat = d.length from by omega, show 0 + (8 * X).toNat = cof c k from by omega, cut_bs P spy (by omega), hcd]
          generalize hq : clr c (P.drop 32) (l.take i) (D.take i) = q at *
          repeat' (first
            | ((with_reducible refine Side.intro ?_) <;> (first
            | omega
            ))
            | ((conv => whnf) <;> (first
            | ((with_reducible apply Br.no) ; (focus omega))
            | ((with_reducible apply nthR_dat) ; (focus assumption))
            | (with_reducible refine ia_sl ?_ ?_)
            | (with_reducible refine rowsR_sl ?_)
            | ((with_reducible apply bytesR_intro) ; (focus (first | rfl | (simp only [bs_take, bs_drop, bs_append]; rfl))))
            ))
            )
          all_goals (conv => whnf)
          all_goals (try dsimp only)
          refine loop_at (α := Nat × AH) (fun a => [(19, .int .i64 a.1)]) (fun a => a.2) (fun a => a.1 ≤ d.length ∧ a.2[H3.length]? = some { sz := 1, els := bs (pt q (cof c k - 32) (List.replicate a.1 0)), gen := 0 + 1, wr := true, pure := true } ∧ a.2[idy]? = some { sz := 1, els := bs P ++ spy, gen := geny, wr := true, pure := true }) (fun a => d.length - a.1) (0, _) ⟨Nat.zero_le _, by rw [show pt q (cof c k - 32) (List.replicate 0 0) = q from pt_nil _ _]; exact hb, hby⟩ rfl rfl ?_
          rintro ⟨m, σ2⟩ ⟨hm, hb2, hby2⟩
          dsimp only at hm hb2 hby2 ⊢
          by_cases hmlt : m < d.length
          · have hql := bs_length (pt q (cof c k - 32) (List.replicate m 0))
            have hpl := pt_length (p := q) (a := cof c k - 32) (d := List.replicate m 0) (by rw [List.length_replicate]; omega)
            have hset := pt_zero_succ (q := q) (a := cof c k - 32) (k := m) (by omega)
            repeat' (first
              | ((with_reducible refine Side.intro ?_) <;> (first
              | omega
              | exact Nat.le_of_ble_eq_true rfl
              | exact rfl
              ))
              | ((conv => whnf) <;> (first
              | (with_reducible refine and_same ?_)
              | (with_reducible refine and_side ?_ ?_)
              | ((with_reducible apply Br.yes) ; (focus omega))
              | ((with_reducible apply blkAt_intro) ; (focus (first
              | ((repeat (first
              | assumption
              )); done)
              )) ; (focus (first | rfl | assumption | omega)) ; (try dsimp only))
              | ((with_reducible apply nthR_dat) ; (focus assumption))
              | (with_reducible refine ia_sl ?_ ?_)
              | (with_reducible refine IaW.of ?_)
              | (with_reducible refine nthR_z ?_)
              | (with_reducible refine lenR_sl ?_)
              | ((with_reducible apply nthR_bs) ; (focus (first | omega | (simp only [List.length_append, List.length_cons, List.length_nil, List.length_take, List.length_drop, bs_length]; omega))))
              | (with_reducible intro _)
              ))
              )
            all_goals (conv => whnf)
            all_goals (try dsimp only)
            have e2 : (bs (pt q (cof c k - 32) (List.replicate m 0))).set (0 + (8 * X - 32 + (m : Int)).toNat) [AV.int IntKind.u8 0] = bs (pt q (cof c k - 32) (List.replicate (m + 1) 0)) := by
              rw [show 0 + (8 * X - 32 + (m : Int)).toNat = cof c k - 32 + m from by omega, ← hset]
              exact bs_set _ _ 0
            rw [e2]
            refine ⟨(m + 1, _), rfl, rfl, ⟨by dsimp only; omega, get_set hb2, by dsimp only; (first
                  | ((repeat (first
                  | assumption
                  | (apply get_set_ne; (focus (first | omega | (simp only [newB_length, List.length_set, List.length_append, List.length_singleton, List.length_nil]; omega))))
                  )); done)
                  )⟩, by dsimp only; omega⟩
          · have hmm : m = d.length := by omega
            subst hmm
            repeat' (first
              | ((with_reducible refine Side.intro ?_) <;> (first
              | omega
              ))
              | ((conv => whnf) <;> (first
              | (with_reducible refine and_same ?_)
              | ((with_reducible apply Br.yes) ; (focus omega))
              | ((with_reducible apply Br.no) ; (focus omega))
              | ((with_reducible apply nthR_dat) ; (focus assumption))
              | (with_reducible refine ia_sl ?_ ?_)
              | (with_reducible refine lenR_sl ?_)
              ))
              )
            all_goals (conv => whnf)
            all_goals (try dsimp only)
            refine ⟨(i + 1, _), rfl, rfl, ⟨by dsimp only; omega, ?_, hby2⟩, by dsimp only; omega⟩
            dsimp only
            rw [hcs k d hk' hdd', zap_pt]
            exact hb2
        · have hil : i = l.length := by omega
          subst hil
          rw [List.take_length, List.take_of_length_le (show D.length ≤ l.length from by omega)] at hb hcl
          generalize clr c (P.drop 32) l D = q at *
          have hql := bs_length q
          repeat' (first
            | ((conv => whnf) <;> (first
            | (with_reducible refine and_same ?_)
            | ((with_reducible apply Br.no) ; (focus omega))
            | (with_reducible refine lenR_sl ?_)
            ))
            )
          all_goals (conv => whnf)
          all_goals (try dsimp only)
          refine call_one (words_Zero_ok q (by omega)) (.cons (Looks.ownbs (.mk' (sp := []) hb (by omega) (by rw [List.append_nil]))) .nil) rfl fun H5 hg5 => ?_
          rw [hrest]
          repeat' (first
            | ((with_reducible refine Side.intro ?_) <;> (first
            | (simp only [List.append_nil, List.nil_append, List.map_nil]; first | exact List.nodup_nil | exact nodup_bid1 _ | exact nodup_bid2 (by assumption))
            | ((first | refine fresh_tup ?_ | skip); (repeat (first |  exact FreshA.sl _ _ FreshA_bs | exact FreshA.sl _ _ FreshA_is | exact FreshA.nils | exact FreshA.nilp | exact FreshA.int _ _ | exact FreshA.bool _ | exact FreshA.str _ | exact fresh_nil | refine fresh_cons ?_ ?_ | with_reducible refine fresh_aggR ?_ | with_reducible refine fresh_agg ?_ | with_reducible exact fresh_nilA | with_reducible refine fresh_consA ?_ ?_)); done)
            ))
            | ((conv => whnf) <;> (first
            | (with_reducible refine and_side ?_ ?_)
            | (with_reducible refine NOut.lit ?_)
            ))
            )
          all_goals (conv => whnf)
          all_goals (try dsimp only)
          exact ret_bool rfl
    · repeat' (first
        | ((with_reducible refine Side.intro ?_) <;> (first
        | (simp only [List.append_nil, List.nil_append, List.map_nil]; first | exact List.nodup_nil | exact nodup_bid1 _ | exact nodup_bid2 (by assumption))
        | ((first | refine fresh_tup ?_ | skip); (repeat (first |  exact FreshA.sl _ _ FreshA_bs | exact FreshA.sl _ _ FreshA_is | exact FreshA.nils | exact FreshA.nilp | exact FreshA.int _ _ | exact FreshA.bool _ | exact FreshA.str _ | exact fresh_nil | refine fresh_cons ?_ ?_ | with_reducible refine fresh_aggR ?_ | with_reducible refine fresh_agg ?_ | with_reducible exact fresh_nilA | with_reducible refine fresh_consA ?_ ?_)); done)
        ))
        | ((conv => whnf) <;> (first
        | (with_reducible refine and_same ?_)
        | (with_reducible refine and_side ?_ ?_)
        | ((with_reducible apply Br.yes) ; (focus omega))
        | (with_reducible refine NOut.lit ?_)
        | (with_reducible refine lenR_sl ?_)
        ))
        )
      all_goals (conv => whnf)
      all_goals (try dsimp only)
      exact ret_bool rfl
end Go.Proofs.Ytabdieanlhecoaa
