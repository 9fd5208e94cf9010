import Derived.Test.YtabdieanlhecoaaPlaws15b
namespace Go.Proofs.Ytabdieanlhecoaa
open Go Go.Proofs.Ytabdieanlhecoaa.V
set_option maxRecDepth 20000
attribute [local irreducible] CallS AOK AOKn ALoop Side Ref.ok
theorem zeros_all (n : Nat) : (List.replicate n (0 : UInt8)).all (· == 0) = true := by
  rw [List.all_eq_true]
  intro x hx
  rw [(List.mem_replicate.1 hx).2]; rfl
set_option maxHeartbeats 4000000 in
theorem SlabBack_ok (c : Int) (l : List Int) (D : List (List UInt8)) (nx pv : Int) (b : List UInt8) (hl : l.length ≤ 4611686018) (hD : D.length ≤ 4611686018) (hd : ∀ d, d ∈ D → d.length ≤ 4611686018) (hb : b.length ≤ 4611686018) : AOKn Try.prog F.joistlaw15_SlabBack [.int .i64 c, .sl 1 (is l) false, .sl 1 (dat D) false, .int .i64 nx, .int .i64 pv, .sl 1 (bs b) false] fun y => y = .bool true := by
  have hln := is_length l
  have hDn := dat_length D
  refine AOKn.by_steps mixed fc_joistlaw15_SlabBack_ok (by simp [fc_joistlaw15_SlabBack]) ?_
  skip
  all_goals (conv => whnf)
  all_goals (try dsimp only)
  refine small_call fun H1 hg1 => ?_
  skip
  all_goals (conv => whnf)
  all_goals (try dsimp only)
  refine few_call D hD hd (Looks.dat _ _ _) fun H2 hg2 => ?_
  cases hf : fewB D
  · repeat' (first
      | ((with_reducible refine Side.intro ?_) <;> (first
      | (simp only [List.append_nil, List.nil_append, List.map_nil]; first | exact List.nodup_nil | exact nodup_bid1 _ | exact nodup_bid2 (by assumption))
      | ((first | refine fresh_tup ?_ | skip); (repeat (first |  exact FreshA.sl _ _ FreshA_bs | exact FreshA.sl _ _ FreshA_is | exact FreshA.nils | exact FreshA.nilp | exact FreshA.int _ _ | exact FreshA.bool _ | exact FreshA.str _ | exact fresh_nil | refine fresh_cons ?_ ?_ | with_reducible refine fresh_aggR ?_ | with_reducible refine fresh_agg ?_ | with_reducible exact fresh_nilA | with_reducible refine fresh_consA ?_ ?_)); done)
      ))
      | ((conv => whnf) <;> (first
      | (with_reducible refine and_side ?_ ?_)
      | (with_reducible refine NOut.lit ?_)
      ))
      )
    all_goals (conv => whnf)
    all_goals (try dsimp only)
    exact ret_bool rfl
  · by_cases h60 : l.length ≤ 60
    · repeat' (first
        | ((conv => whnf) <;> (first
        | (with_reducible refine and_same ?_)
        | ((with_reducible apply Br.no) ; (focus omega))
        | (with_reducible refine lenR_sl ?_)
        ))
        )
      all_goals (conv => whnf)
      all_goals (try dsimp only)
      refine SWrite_call c l D nx pv hl hD hd (Looks.is _ _ _) (Looks.dat _ _ _) fun H3 y hg3 hy hyn => ?_
      cases hw : swOk c l D nx pv
      · rw [swE, hw, show (if false = true then (0 : Int) else 1) = 1 from rfl]
        repeat' (first
          | ((conv => whnf) <;> (first
          | (with_reducible refine and_same ?_)
          | ((with_reducible apply Br.no) ; (focus omega))
          ))
          )
        all_goals (conv => whnf)
        all_goals (try dsimp only)
        refine SRead_call b hb (.bs _ _ _) fun H7 cb db hg7 hcb hdb hcbn hdbn hcdb => ?_
        cases hs : srOk b
        · obtain ⟨u1, u2, u3⟩ := sr_no hs
          rw [u1, u1, u1]
          rw [u2] at hcb
          rw [u3] at hdb
          have hcb0 : Own H7 1 cb (is []) := hcb
          have hdb0 : Own H7 1 db (datT []) := hdb
          clear hcb hdb
          repeat' (first
            | ((with_reducible refine Side.intro ?_) <;> (first
            | (simp only [List.append_nil, List.nil_append, List.map_nil]; first | exact List.nodup_nil | exact nodup_bid1 _ | exact nodup_bid2 (by assumption))
            | ((first | refine fresh_tup ?_ | skip); (repeat (first |  exact FreshA.sl _ _ FreshA_bs | exact FreshA.sl _ _ FreshA_is | exact FreshA.nils | exact FreshA.nilp | exact FreshA.int _ _ | exact FreshA.bool _ | exact FreshA.str _ | exact fresh_nil | refine fresh_cons ?_ ?_ | with_reducible refine fresh_aggR ?_ | with_reducible refine fresh_agg ?_ | with_reducible exact fresh_nilA | with_reducible refine fresh_consA ?_ ?_)); done)
            ))
            | ((conv => whnf) <;> (first
            | (with_reducible refine and_same ?_)
            | (with_reducible refine and_side ?_ ?_)
            | (with_reducible refine Br.yes rfl ?_)
            | ((with_reducible apply lenR_own) ; (focus assumption))
            | (with_reducible refine NOut.lit ?_)
            ))
            )
          all_goals (conv => whnf)
          all_goals (try dsimp only)
          exact ret_bool rfl
        · obtain ⟨u1, u2, u3⟩ := sr_yes hs
          rw [u1, u1, u1]
          rw [u2] at hcb
          rw [u3] at hdb
          obtain ⟨v1, v2⟩ := sr_back hs
          obtain ⟨w1, w2, w3⟩ := rCD_len b
          have hself : ¬ (b ≠ b) := fun h => h rfl
          skip
          all_goals (conv => whnf)
          all_goals (try dsimp only)
          refine SWrite_call (rof b) (rC b) (rD b) (rN b) (rP b) (by omega) (by omega) w3 (Looks.ownis hcb) (Looks.owndat hdb) fun H8 yb hg8 hyb hybn => ?_
          rw [v2] at hyb
          rw [swE, v1, show (if true = true then (0 : Int) else 1) = 0 from rfl]
          repeat' (first
            | ((with_reducible refine Side.intro ?_) <;> (first
            | (simp only [List.append_nil, List.nil_append, List.map_nil]; first | exact List.nodup_nil | exact nodup_bid1 _ | exact nodup_bid2 (by assumption))
            | ((first | refine fresh_tup ?_ | skip); (repeat (first |  exact FreshA.sl _ _ FreshA_bs | exact FreshA.sl _ _ FreshA_is | exact FreshA.nils | exact FreshA.nilp | exact FreshA.int _ _ | exact FreshA.bool _ | exact FreshA.str _ | exact fresh_nil | refine fresh_cons ?_ ?_ | with_reducible refine fresh_aggR ?_ | with_reducible refine fresh_agg ?_ | with_reducible exact fresh_nilA | with_reducible refine fresh_consA ?_ ?_)); done)
            ))
            | ((conv => whnf) <;> (first
            | (with_reducible refine and_same ?_)
            | (with_reducible refine and_side ?_ ?_)
            | (with_reducible refine Br.yes rfl ?_)
            | ((with_reducible apply rowsR_own) ; (focus assumption))
            | (with_reducible refine NOut.lit ?_)
            | (with_reducible refine rowsR_sl ?_)
            | ((with_reducible apply bytesR_intro) ; (focus (first | rfl | (simp only [bs_take, bs_drop, bs_append]; rfl))))
            ))
            )
          all_goals (conv => whnf)
          all_goals (try dsimp only)
          exact ret_bool rfl
      · have hl256 := swR_len hw
        rw [swE, hw, show (if true = true then (0 : Int) else 1) = 0 from rfl]
        obtain ⟨hL, hi, _, hlD, _⟩ := sw_lay hw
        have hRn := bs_length (swR c l D nx pv)
        obtain ⟨r1, r2, r3, r4, r5⟩ := sw_read hw
        have hsr := sw_sr hw
        have hcel := @sw_cel c l D nx pv hw
        obtain ⟨t1, t2, t3⟩ := sr_yes hsr
        repeat' (first
          | ((conv => whnf) <;> (first
          | (with_reducible refine and_same ?_)
          | (with_reducible refine Br.yes rfl ?_)
          ))
          )
        all_goals (conv => whnf)
        all_goals (try dsimp only)
        refine SRead_call (swR c l D nx pv) (by omega) (Looks.ownbs hy) fun H4 cy dy hg4 hcy hdy hcn hdn hcd => ?_
        rw [t1, t1, t1, r1, r4, r5, hsr]
        rw [t2, r2] at hcy
        rw [t3, r3] at hdy
        generalize swR c l D nx pv = P at *
        repeat' (first
          | ((conv => whnf) <;> (first
          | (with_reducible refine and_same ?_)
          | ((with_reducible apply Br.no) ; (focus omega))
          ))
          )
        all_goals (conv => whnf)
        all_goals (try dsimp only)
        refine Same_call l l (by omega) (by omega) (Looks.ownis hcy) (Looks.is _ _ _) fun H5 hg5 => ?_
        rw [decide_eq_true rfl]
        have hdl := datT_length (l.map (cel c P))
        have hml : (l.map (cel c P)).length = l.length := List.length_map ..
        replace hdy := hdy.keepN hg5
        repeat' (first
          | ((conv => whnf) <;> (first
          | (with_reducible refine and_same ?_)
          | ((with_reducible apply Br.no) ; (focus omega))
          | ((with_reducible apply lenR_own) ; (focus assumption))
          | (with_reducible refine lenR_sl ?_)
          ))
          )
        all_goals (conv => whnf)
        all_goals (try dsimp only)
        refine loop_at (α := Nat × AH) (fun a => [(23, .int .i64 a.1)]) (fun a => a.2) (fun a => a.1 ≤ l.length ∧ Own a.2 1 dy (datT (l.map (cel c P)))) (fun a => l.length - a.1) (0, H5) ⟨Nat.zero_le _, hdy⟩ rfl rfl ?_
        rintro ⟨i, σ⟩ ⟨hil, hdy⟩
        dsimp only at hil hdy ⊢
        by_cases hlt : i < l.length
        · obtain ⟨k, hk, hk'⟩ := getN hlt
          obtain ⟨d, hdd, hdd'⟩ := getN (l := D) (k := i) (by omega)
          have hfit := hL.fit d (List.mem_of_getElem? hdd')
          have hcw := cn_bd c
          have hce := hcel hk' hdd'
          have hdk : (l.map (cel c P))[(i : Int).toNat]? = some (d ++ List.replicate (8 * (cw c).toNat - d.length) 0) := by
            rw [Int.toNat_natCast, List.getElem?_map, hk', ← hce]; rfl
          have hbl := bs_length d
          have hbl2 := bs_length (d ++ List.replicate (8 * (cw c).toNat - d.length) 0)
          rw [List.length_append, List.length_replicate] at hbl2
          generalize hz : 8 * (cw c).toNat - d.length = z at *
          have hcmp : ¬ (List.drop (Int.toNat 0) (List.take (((bs d).length : Nat) : Int).toNat (d ++ List.replicate z 0)) ≠ d) := by
            intro h
            apply h
            rw [Int.toNat_natCast, hbl, List.take_left]; rfl
          repeat' (first
            | ((with_reducible refine Side.intro ?_) <;> (first
            | omega
            ))
            | ((conv => whnf) <;> (first
            | (with_reducible refine and_same ?_)
            | (with_reducible refine and_side ?_ ?_)
            | ((with_reducible apply Br.yes) ; (focus omega))
            | ((with_reducible apply Br.no) ; (focus omega))
            | ((with_reducible apply blkAt_intro) ; (focus (first
            | ((repeat (first
            | assumption
            )); done)
            )) ; (focus (first | rfl | assumption | omega)) ; (try dsimp only))
            | ((with_reducible apply nthR_dat) ; (focus assumption))
            | ((with_reducible apply nthR_datT) ; (focus assumption))
            | ((with_reducible apply lenR_own) ; (focus assumption))
            | ((with_reducible apply ia_own) ; (focus assumption))
            | (with_reducible refine ia_sl ?_ ?_)
            | (with_reducible refine SliceW.of ?_)
            | (with_reducible refine nthR_z ?_)
            | ((with_reducible apply nthR_left) ; (focus (first | omega | (simp only [List.length_append, List.length_cons, List.length_nil, List.length_take, List.length_drop, bs_length]; omega))))
            | (with_reducible refine lenR_sl ?_)
            | (with_reducible refine rowsR_sl ?_)
            | ((with_reducible apply bytesR_intro) ; (focus (first | rfl | (simp only [bs_take, bs_drop, bs_append]; rfl))))
            | (with_reducible intro _)
            ))
            )
          all_goals (conv => whnf)
          all_goals (try dsimp only)
          have ez : List.drop (((bs d).length : Nat) : Int).toNat (List.take (((bs (d ++ List.replicate z 0)).length : Nat) : Int).toNat (bs (d ++ List.replicate z 0))) = bs (List.replicate z 0) := by
            rw [Int.toNat_natCast, Int.toNat_natCast, List.take_length, hbl, bs_drop, List.drop_left]
          rw [ez]
          refine call_one (words_Zero_ok (List.replicate z 0) (by rw [List.length_replicate]; omega)) (.cons (.bs _ _ _) .nil) rfl fun H6 hg6 => ?_
          rw [zeros_all]
          repeat' (first
            | ((conv => whnf) <;> (first
            | (with_reducible refine and_same ?_)
            | ((with_reducible apply Br.yes) ; (focus omega))
            ))
            )
          all_goals (conv => whnf)
          all_goals (try dsimp only)
          refine ⟨(i + 1, H6), rfl, rfl, ⟨by dsimp only; omega, hdy.keepN hg6⟩, by dsimp only; omega⟩
        · have hil : i = l.length := by omega
          subst hil
          repeat' (first
            | ((conv => whnf) <;> (first
            | (with_reducible refine and_same ?_)
            | ((with_reducible apply Br.no) ; (focus omega))
            | ((with_reducible apply lenR_own) ; (focus assumption))
            ))
            )
          all_goals (conv => whnf)
          all_goals (try dsimp only)
          refine SRead_call b hb (.bs _ _ _) fun H7 cb db hg7 hcb hdb hcbn hdbn hcdb => ?_
          cases hs : srOk b
          · obtain ⟨u1, u2, u3⟩ := sr_no hs
            rw [u1, u1, u1]
            rw [u2] at hcb
            rw [u3] at hdb
            have hcb0 : Own H7 1 cb (is []) := hcb
            have hdb0 : Own H7 1 db (datT []) := hdb
            clear hcb hdb
            repeat' (first
              | ((with_reducible refine Side.intro ?_) <;> (first
              | (simp only [List.append_nil, List.nil_append, List.map_nil]; first | exact List.nodup_nil | exact nodup_bid1 _ | exact nodup_bid2 (by assumption))
              | ((first | refine fresh_tup ?_ | skip); (repeat (first |  exact FreshA.sl _ _ FreshA_bs | exact FreshA.sl _ _ FreshA_is | exact FreshA.nils | exact FreshA.nilp | exact FreshA.int _ _ | exact FreshA.bool _ | exact FreshA.str _ | exact fresh_nil | refine fresh_cons ?_ ?_ | with_reducible refine fresh_aggR ?_ | with_reducible refine fresh_agg ?_ | with_reducible exact fresh_nilA | with_reducible refine fresh_consA ?_ ?_)); done)
              ))
              | ((conv => whnf) <;> (first
              | (with_reducible refine and_same ?_)
              | (with_reducible refine and_side ?_ ?_)
              | (with_reducible refine Br.yes rfl ?_)
              | ((with_reducible apply lenR_own) ; (focus assumption))
              | (with_reducible refine NOut.lit ?_)
              ))
              )
            all_goals (conv => whnf)
            all_goals (try dsimp only)
            exact ret_bool rfl
          · obtain ⟨u1, u2, u3⟩ := sr_yes hs
            rw [u1, u1, u1]
            rw [u2] at hcb
            rw [u3] at hdb
            obtain ⟨v1, v2⟩ := sr_back hs
            obtain ⟨w1, w2, w3⟩ := rCD_len b
            have hself : ¬ (b ≠ b) := fun h => h rfl
            skip
            all_goals (conv => whnf)
            all_goals (try dsimp only)
            refine SWrite_call (rof b) (rC b) (rD b) (rN b) (rP b) (by omega) (by omega) w3 (Looks.ownis hcb) (Looks.owndat hdb) fun H8 yb hg8 hyb hybn => ?_
            rw [v2] at hyb
            rw [swE, v1, show (if true = true then (0 : Int) else 1) = 0 from rfl]
            repeat' (first
              | ((with_reducible refine Side.intro ?_) <;> (first
              | (simp only [List.append_nil, List.nil_append, List.map_nil]; first | exact List.nodup_nil | exact nodup_bid1 _ | exact nodup_bid2 (by assumption))
              | ((first | refine fresh_tup ?_ | skip); (repeat (first |  exact FreshA.sl _ _ FreshA_bs | exact FreshA.sl _ _ FreshA_is | exact FreshA.nils | exact FreshA.nilp | exact FreshA.int _ _ | exact FreshA.bool _ | exact FreshA.str _ | exact fresh_nil | refine fresh_cons ?_ ?_ | with_reducible refine fresh_aggR ?_ | with_reducible refine fresh_agg ?_ | with_reducible exact fresh_nilA | with_reducible refine fresh_consA ?_ ?_)); done)
              ))
              | ((conv => whnf) <;> (first
              | (with_reducible refine and_same ?_)
              | (with_reducible refine and_side ?_ ?_)
              | (with_reducible refine Br.yes rfl ?_)
              | ((with_reducible apply rowsR_own) ; (focus assumption))
              | (with_reducible refine NOut.lit ?_)
              | (with_reducible refine rowsR_sl ?_)
              | ((with_reducible apply bytesR_intro) ; (focus (first | rfl | (simp only [bs_take, bs_drop, bs_append]; rfl))))
              ))
              )
            all_goals (conv => whnf)
            all_goals (try dsimp only)
            exact ret_bool rfl
    · repeat' (first
        | ((with_reducible refine Side.intro ?_) <;> (first
        | (simp only [List.append_nil, List.nil_append, List.map_nil]; first | exact List.nodup_nil | exact nodup_bid1 _ | exact nodup_bid2 (by assumption))
        | ((first | refine fresh_tup ?_ | skip); (repeat (first |  exact FreshA.sl _ _ FreshA_bs | exact FreshA.sl _ _ FreshA_is | exact FreshA.nils | exact FreshA.nilp | exact FreshA.int _ _ | exact FreshA.bool _ | exact FreshA.str _ | exact fresh_nil | refine fresh_cons ?_ ?_ | with_reducible refine fresh_aggR ?_ | with_reducible refine fresh_agg ?_ | with_reducible exact fresh_nilA | with_reducible refine fresh_consA ?_ ?_)); done)
        ))
        | ((conv => whnf) <;> (first
        | (with_reducible refine and_same ?_)
        | (with_reducible refine and_side ?_ ?_)
        | ((with_reducible apply Br.yes) ; (focus omega))
        | (with_reducible refine NOut.lit ?_)
        | (with_reducible refine lenR_sl ?_)
        ))
        )
      all_goals (conv => whnf)
      all_goals (try dsimp only)
      exact ret_bool rfl
end Go.Proofs.Ytabdieanlhecoaa
