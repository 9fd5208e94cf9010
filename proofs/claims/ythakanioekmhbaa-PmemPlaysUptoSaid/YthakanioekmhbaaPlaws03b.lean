import Derived.Test.YthakanioekmhbaaPlaws03
namespace Go.Proofs.Ythakanioekmhbaa
open Go Go.Proofs.Ythakanioekmhbaa.V
set_option maxRecDepth 20000
attribute [local irreducible] CallS AOK AOKn ALoop Side Ref.ok
def acR (l : List ActV) : List (List AV) := l.map actR
theorem acR_length (l : List ActV) : (acR l).length = l.length := by simp [acR]
theorem nthR_act {l : List ActV} {n : Nat} {K : List AV → Prop} {c : ActV} (h : l[n]? = some c) (hk : K (actR c)) : nthR (acR l) n K := nthR_intro (x := actR c) (by simp [acR, h]) hk
/-- What a step is like. -/
def StepLike (d : Dv) (r : Int × Dv) : Prop := ∃ x y, askD d x y ≠ 1 + 1 ∧ (((beginD d x y).1 ≠ 0 ∧ r = beginD d x y) ∨ ((beginD d x y).1 = 0 ∧ r.1 = 0 ∧ r.2.armed = (beginD d x y).2.armed ∧ r.2.down = (beginD d x y).2.down))
theorem ask_ne2 (d : Dv) (x y : Int) : askD d x y ≠ 1 + 1 := by
  unfold askD
  repeat' split
  all_goals omega
theorem storeLike (d : Dv) (at' : Int) (b : List UInt8) : StepLike d (storeD d at' b) := by
  refine ⟨at', b.length, ask_ne2 _ _ _, ?_⟩
  unfold storeD
  generalize beginD d at' b.length = q
  obtain ⟨e, d1⟩ := q
  by_cases h : e = 0
  · right
    refine ⟨h, ?_⟩
    dsimp only
    rw [if_neg (by simp [h])]
    exact ⟨rfl, rfl, rfl⟩
  · left
    exact ⟨h, if_pos h⟩
theorem flushLike (d : Dv) (at' n : Int) : StepLike d (flushD d at' n) := by
  refine ⟨at', n, ask_ne2 _ _ _, ?_⟩
  unfold flushD
  generalize beginD d at' n = q
  obtain ⟨e, d1⟩ := q
  by_cases h : e = 0
  · right
    refine ⟨h, ?_⟩
    dsimp only
    rw [if_neg (by simp [h])]
    exact ⟨rfl, rfl, rfl⟩
  · left
    exact ⟨h, if_pos h⟩
theorem fold_same : ∀ (l : List Int) (d : Dv), (l.foldl fenceS d).armed = d.armed ∧ (l.foldl fenceS d).down = d.down
  | [], d => ⟨rfl, rfl⟩
  | k :: r, d => by
    have h := fold_same r (fenceS d k)
    have e : (fenceS d k).armed = d.armed ∧ (fenceS d k).down = d.down := by unfold fenceS; split <;> exact ⟨rfl, rfl⟩
    exact ⟨h.1.trans e.1, h.2.trans e.2⟩
theorem fenceLike (d : Dv) : StepLike d (fenceD d) := by
  refine ⟨0, 0, ask_ne2 _ _ _, ?_⟩
  unfold fenceD
  generalize beginD d 0 0 = q
  obtain ⟨e, d1⟩ := q
  by_cases h : e = 0
  · right
    refine ⟨h, ?_⟩
    dsimp only
    rw [if_neg (by simp [h])]
    exact ⟨rfl, (fold_same _ _).1, (fold_same _ _).2⟩
  · left
    exact ⟨h, if_pos h⟩
def FInv (left : Int) (d : Dv) : Prop := (left = 0 ∧ d.down = true) ∨ (0 < left ∧ d.down = false ∧ d.armed = left)
theorem fails_step {d : Dv} {left : Int} {r : Int × Dv} (hI : FInv left d) (hr : StepLike d r) : (left = 0 ∧ r = (5, d)) ∨ (0 < left ∧ r = (1, d)) ∨ (left = 1 ∧ r = (5, { d with armed := 0, down := true })) ∨ (1 < left ∧ r.1 = 0 ∧ r.2.armed = left - 1 ∧ r.2.down = false) := by
  obtain ⟨x, y, h2, h⟩ := hr
  rcases hI with ⟨rfl, hd⟩ | ⟨hl, hd, ha⟩
  · left
    refine ⟨rfl, ?_⟩
    rw [begin_err (ask_down hd) (by decide)] at h
    rcases h with ⟨_, h⟩ | ⟨h, _⟩
    · exact h
    · cases h
  · right
    by_cases h0 : askD d x y = 0
    · right
      by_cases h1 : left = 1
      · left
        refine ⟨h1, ?_⟩
        rw [begin_last h0 (by omega)] at h
        rcases h with ⟨_, h⟩ | ⟨h, _⟩
        · exact h
        · cases h
      · right
        rw [begin_less h0 (by omega)] at h
        rcases h with ⟨h, _⟩ | ⟨_, h3, h4, h5⟩
        · exact absurd rfl h
        · exact ⟨by omega, h3, by rw [h4, ha], by rw [h5]; exact hd⟩
    · left
      have h1 : askD d x y = 1 := by
        unfold askD at h0 h2 ⊢
        rw [if_neg (by simp [hd])] at h0 h2 ⊢
        split at h0 <;> simp_all
      rw [begin_err h1 (by decide)] at h
      rcases h with ⟨_, h⟩ | ⟨h, _⟩
      · exact ⟨hl, h⟩
      · cases h
theorem and7 (n : Int) : 0 ≤ IntKind.wrap .i64 ((BitVec.ofInt (IntKind.bits .i64) n &&& BitVec.ofInt (IntKind.bits .i64) 7).toNat : Int) ∧ IntKind.wrap .i64 ((BitVec.ofInt (IntKind.bits .i64) n &&& BitVec.ofInt (IntKind.bits .i64) 7).toNat : Int) ≤ 7 := by
  have h : (BitVec.ofInt (IntKind.bits .i64) n &&& BitVec.ofInt (IntKind.bits .i64) 7).toNat ≤ 7 := by
    rw [BitVec.toNat_and]
    exact Nat.and_le_right
  rw [wrap_nat (by omega)]
  omega
theorem PmemFails_ok (s : List UInt8) (n : Int) (ac : List ActV) (hs : s.length ≤ 4611686018) (hac : ac.length ≤ 4611686018 ∧ ∀ c, c ∈ ac → c.B.length ≤ 4611686018) : AOKn Try.prog F.joistlaw03_PmemFails [.sl 1 (bs s) false, .int .i64 n, .sl 5 (acR ac) false] fun y => y = .bool true := by
  obtain ⟨ha1, ha2⟩ := hac
  have hns := bs_length s
  have hna := acR_length ac
  have ntt : ¬ (true ≠ true) := by simp
  have nff : ¬ (false ≠ false) := by simp
  obtain ⟨w1, w2⟩ := and7 n
  refine AOKn.by_steps mixed fc_joistlaw03_PmemFails_ok (by simp [fc_joistlaw03_PmemFails]) ?_
  skip
  all_goals (conv => whnf)
  all_goals (try dsimp only)
  refine call_one small_ok .nil rfl fun σ1 hg1 => ?_
  by_cases h1 : 2048 < (s.length : Int)
  · repeat' (first
      | ((with_reducible refine Side.intro ?_) <;> (first
      | (simp only [List.append_nil, List.nil_append, List.map_nil]; first | exact List.nodup_nil | exact nodup_bid1 _ | exact nodup_bid2 (by assumption))
      | ((first | refine fresh_tup ?_ | skip); (repeat (first |  exact FreshA.sl _ _ FreshA_bs | exact FreshA.sl _ _ FreshA_is | exact FreshA.nils | exact FreshA.nilp | exact FreshA.int _ _ | exact FreshA.bool _ | exact FreshA.str _ | exact fresh_nil | refine fresh_cons ?_ ?_ | with_reducible refine fresh_aggR ?_ | with_reducible refine fresh_agg ?_ | with_reducible exact fresh_nilA | with_reducible refine fresh_consA ?_ ?_)); done)
      ))
      | ((conv => whnf) <;> (first
      | (with_reducible refine and_same ?_)
      | (with_reducible refine and_side ?_ ?_)
      | ((with_reducible apply Br.yes) ; (focus omega))
      | (with_reducible refine NOut.lit ?_)
      | (with_reducible refine lenR_sl ?_)
      ))
      )
    all_goals (conv => whnf)
    all_goals (try dsimp only)
    exact ret_bool rfl
  repeat' (first
    | ((conv => whnf) <;> (first
    | (with_reducible refine and_same ?_)
    | ((with_reducible apply Br.no) ; (focus omega))
    | (with_reducible refine lenR_sl ?_)
    ))
    )
  all_goals (conv => whnf)
  all_goals (try dsimp only)
  refine New_ok (s := s) (.sl false rfl) hs _ ?_ ?_
  · intro hG a σ2 hg2 hD2 hn2
    have hR := DvR.new hG
    have box2 := hD2.box
    dsimp only at box2
    repeat' (first
      | ((conv => whnf) <;> (first
      | (with_reducible refine and_same ?_)
      | ((with_reducible apply Br.yes) ; (focus omega))
      | ((with_reducible apply Br.no) ; (focus omega))
      | ((with_reducible apply blkAt_step) ; (focus (first
      | ((repeat (first
      | assumption
      )); done)
      )) ; (focus (first | rfl | assumption | omega)) ; (focus (first | rfl | assumption)) ; (try dsimp only))
      ))
      )
    all_goals (conv => whnf)
    all_goals (try dsimp only)
    generalize IntKind.wrap .i64 ((BitVec.ofInt (IntKind.bits .i64) n &&& BitVec.ofInt (IntKind.bits .i64) 7).toNat : Int) = m at *
    refine Arm_ok hD2 (1 + m) _ fun σ3 hD3 hg3 => ?_
    have em : max (1 + m) 0 = 1 + m := by omega
    have hR3 := hR.arm (n := 1 + m) (by omega)
    rw [em] at hD3 hR3
    skip
    all_goals (conv => whnf)
    all_goals (try dsimp only)
    refine loop_at (α := Int × Nat × Dv × AH) (fun q => [(10, .int .i64 q.1), (11, .int .i64 q.2.1)]) (fun q => q.2.2.2) (fun q => (0 ≤ q.1 ∧ q.1 ≤ 8) ∧ q.2.1 ≤ ac.length ∧ DevH q.2.2.2 a q.2.2.1 ∧ DvR q.2.2.1 ∧ FInv q.1 q.2.2.1 ∧ q.2.2.1.L.length = s.length) (fun q => ac.length - q.2.1) (1 + m, 0, ⟨s, s, [], 0, 1 + m, false⟩, σ3) ⟨⟨by dsimp only; omega, by dsimp only; omega⟩, Nat.zero_le _, hD3, hR3, .inr ⟨by dsimp only; omega, rfl, rfl⟩, rfl⟩ rfl rfl ?_
    rintro ⟨left, i, d, τ⟩ ⟨⟨hl0, hl8⟩, hi, hD, hRd, hI, hLs⟩
    dsimp only at hl0 hl8 hi hD hRd hI hLs ⊢
    have hle := hRd.ok.le
    have hln := hRd.ok.len
    by_cases hlt : i < ac.length ∧ i < 40
    · obtain ⟨c, hc, hc'⟩ := getN hlt.1
      have hcB := ha2 c (List.mem_of_getElem? hc')
      obtain ⟨hlt1, hlt2⟩ := hlt
      have nss : ¬ (d.S ≠ d.S) := by simp
      obtain ⟨Do, At, N, B, K⟩ := c
      dsimp only at hcB
      have hnB := bs_length B
      have hil := is_length (srt (d.es.map ME.key))
      by_cases hsk : Do < 1 ∨ 3 < Do ∨ 4096 < (B.length : Int)
      · repeat' (first
          | ((with_reducible refine Side.intro ?_) <;> (first
          | omega
          | exact Nat.le_of_ble_eq_true rfl
          | exact rfl
          ))
          | ((conv => whnf) <;> (first
          | (with_reducible refine and_same ?_)
          | (with_reducible refine and_side ?_ ?_)
          | ((with_reducible apply Br.yes) ; (focus omega))
          | (with_reducible refine Br.mk (fun _ => ?_) (fun _ => ?_))
          | ((with_reducible apply blkAt_step) ; (focus (first
          | ((repeat (first
          | exact get_new
          | exact get_set get_new
          )); done)
          )) ; (focus (first | rfl | assumption | omega)) ; (focus (first | rfl | assumption)) ; (try dsimp only))
          | ((with_reducible apply nthR_act) ; (focus assumption))
          | (with_reducible refine ia_sl ?_ ?_)
          | (with_reducible refine lenR_sl ?_)
          ))
          )
        all_goals (conv => whnf)
        all_goals (try dsimp only)
        all_goals exact ⟨(left, i + 1, d, _), rfl, rfl, ⟨⟨hl0, hl8⟩, hlt1, hD.keepN (by (repeat (first
              | exact Gr.refl _ _
              | refine Gr.setNew ?_ (by first | exact Nat.le_refl _ | (simp only [newB_length, List.length_set, List.length_append, List.length_singleton]; omega) | omega) _
              | refine Gr.addN ?_ _
              ))), hRd, hI, hLs⟩, by dsimp only; omega⟩
      · repeat' (first
          | ((with_reducible refine Side.intro ?_) <;> (first
          | omega
          | exact Nat.le_of_ble_eq_true rfl
          | exact rfl
          ))
          | ((conv => whnf) <;> (first
          | (with_reducible refine and_same ?_)
          | (with_reducible refine and_side ?_ ?_)
          | ((with_reducible apply Br.yes) ; (focus omega))
          | ((with_reducible apply Br.no) ; (focus omega))
          | ((with_reducible apply blkAt_step) ; (focus (first
          | ((repeat (first
          | exact get_new
          | exact get_set get_new
          )); done)
          )) ; (focus (first | rfl | assumption | omega)) ; (focus (first | rfl | assumption)) ; (try dsimp only))
          | ((with_reducible apply nthR_act) ; (focus assumption))
          | (with_reducible refine ia_sl ?_ ?_)
          | (with_reducible refine lenR_sl ?_)
          ))
          )
        all_goals (conv => whnf)
        all_goals (try dsimp only)
        refine View_ok (hD.keepN (by (repeat (first
              | exact Gr.refl _ _
              | refine Gr.setNew ?_ (by first | exact Nat.le_refl _ | (simp only [newB_length, List.length_set, List.length_append, List.length_singleton]; omega) | omega) _
              | refine Gr.addN ?_ _
              )))) (by omega) _ fun y σ4 hg4 ho4 hn4 => ?_
        have gg4 : Gr τ σ4 none := (by (repeat (first
              | exact Gr.refl _ _
              | refine Gr.setNew ?_ (by first | exact Nat.le_refl _ | (simp only [newB_length, List.length_set, List.length_append, List.length_singleton]; omega) | omega) _
              | refine Gr.addN ?_ _
              )) : Gr τ _ none).trans hg4
        have bx4 := hg4.2 _ _ (get_set get_new) (by simp)
        repeat' (first
          | ((conv => whnf) <;> (first
          | ((with_reducible apply rowsR_own) ; (focus assumption))
          | ((with_reducible apply bytesR_intro) ; (focus (first | rfl | (simp only [bs_take, bs_drop, bs_append]; rfl))))
          ))
          )
        all_goals (conv => whnf)
        all_goals (try dsimp only)
        refine Dirty_ok (hD.keepN gg4) hRd.ok.map hRd.ok.few _ fun y5 σ5 hg5 ho5 hn5 => ?_
        have bx5 := hg5.2 _ _ bx4 (by simp)
        have hD5 := hD.keepN (gg4.trans hg5)
        clear ho4 hn4 bx4
        by_cases d1 : Do = 1
        · repeat' (first
            | ((conv => whnf) <;> (first
            | (with_reducible refine and_same ?_)
            | ((with_reducible apply Br.yes) ; (focus omega))
            | ((with_reducible apply blkAt_step) ; (focus (first
            | ((repeat (first
            | assumption
            )); done)
            )) ; (focus (first | rfl | assumption | omega)) ; (focus (first | rfl | assumption)) ; (try dsimp only))
            | ((with_reducible apply lenR_own) ; (focus assumption))
            ))
            )
          all_goals (conv => whnf)
          all_goals (try dsimp only)
          refine Store_ok hD5 (by omega) hRd.ok.arm At (b := B) (.sl false rfl) (fun _ _ q => by cases q) (by omega) _ fun σ6 hD6 hg6 => ?_
          have bx6 := hg6.2 _ _ bx5 fun q => by have := hD.lt _ q; omega
          have hst := fails_step hI (storeLike d At B)
          have hR6 := hRd.store At B
          have hLn : (storeD d At B).2.L.length = d.L.length := by rw [store_len]
          generalize storeD d At B = r at *
          obtain ⟨e, d6⟩ := r
          dsimp only at hD6 hR6 hLn ⊢
          rcases hst with ⟨h0, q⟩ | ⟨h0, q⟩ | ⟨h0, q⟩ | ⟨h0, q1, q2, q3⟩
          · obtain ⟨qe, qd⟩ := Prod.mk.inj q
            clear q
            subst qe
            have qs := qd.symm
            subst qs
            have hdn : d.down = true := by
              rcases hI with ⟨_, h⟩ | ⟨h, _⟩
              · exact h
              · omega
            repeat' (first
              | ((conv => whnf) <;> (first
              | (with_reducible refine and_same ?_)
              | (with_reducible refine Br.yes rfl ?_)
              | ((with_reducible apply Br.yes) ; (focus omega))
              | ((with_reducible apply Br.no) ; (focus omega))
              | ((with_reducible apply blkAt_step) ; (focus (first
              | ((repeat (first
              | assumption
              )); done)
              )) ; (focus (first | rfl | assumption | omega)) ; (focus (first | rfl | assumption)) ; (try dsimp only))
              ))
              )
            all_goals (conv => whnf)
            all_goals (try dsimp only)
            refine Down_ok hD6 _ ?_
            rw [hdn]
            repeat' (first
              | ((conv => whnf) <;> (first
              | (with_reducible refine and_same ?_)
              | ((with_reducible apply Br.yes) ; (focus omega))
              | ((with_reducible apply Br.no) ; (focus omega))
              ))
              )
            all_goals (conv => whnf)
            all_goals (try dsimp only)
            refine View_ok hD6 (by omega) _ fun y7 σ7 hg7 ho7 hn7 => ?_
            have hD7 := hD6.keepN hg7
            repeat' (first
              | ((conv => whnf) <;> (first
              | ((with_reducible apply Br.no) ; (focus omega))
              | ((with_reducible apply rowsR_own) ; (focus assumption))
              | ((with_reducible apply bytesR_intro) ; (focus (first | rfl | (simp only [bs_take, bs_drop, bs_append]; rfl))))
              ))
              )
            all_goals (conv => whnf)
            all_goals (try dsimp only)
            refine Dirty_ok hD7 hR6.ok.map hR6.ok.few _ fun y8 σ8 hg8 ho8 hn8 => ?_
            have hD8 := hD7.keepN hg8
            repeat' (first
              | ((conv => whnf) <;> (first
              | (with_reducible refine and_same ?_)
              | ((with_reducible apply Br.yes) ; (focus omega))
              | ((with_reducible apply Br.no) ; (focus omega))
              | ((with_reducible apply lenR_own) ; (focus assumption))
              ))
              )
            all_goals (conv => whnf)
            all_goals (try dsimp only)
            exact ⟨(left, i + 1, d, σ8), rfl, rfl, ⟨⟨hl0, hl8⟩, hlt1, hD8, hR6, hI, hLs⟩, by dsimp only; omega⟩
          · obtain ⟨qe, qd⟩ := Prod.mk.inj q
            clear q
            subst qe
            have qs := qd.symm
            subst qs
            have hdn : d.down = false := by
              rcases hI with ⟨h, _⟩ | ⟨_, h, _⟩
              · omega
              · exact h
            repeat' (first
              | ((conv => whnf) <;> (first
              | (with_reducible refine and_same ?_)
              | ((with_reducible apply Br.yes) ; (focus omega))
              | ((with_reducible apply Br.no) ; (focus omega))
              | ((with_reducible apply blkAt_step) ; (focus (first
              | ((repeat (first
              | assumption
              )); done)
              )) ; (focus (first | rfl | assumption | omega)) ; (focus (first | rfl | assumption)) ; (try dsimp only))
              ))
              )
            all_goals (conv => whnf)
            all_goals (try dsimp only)
            refine Down_ok hD6 _ ?_
            rw [hdn]
            repeat' (first
              | ((conv => whnf) <;> (first
              | (with_reducible refine and_same ?_)
              | ((with_reducible apply Br.yes) ; (focus omega))
              | ((with_reducible apply Br.no) ; (focus omega))
              ))
              )
            all_goals (conv => whnf)
            all_goals (try dsimp only)
            exact ⟨(left, i + 1, d, σ6), rfl, rfl, ⟨⟨hl0, hl8⟩, hlt1, hD6, hR6, hI, hLs⟩, by dsimp only; omega⟩
          · obtain ⟨rfl, rfl⟩ := Prod.mk.inj q
            repeat' (first
              | ((conv => whnf) <;> (first
              | (with_reducible refine and_same ?_)
              | (with_reducible refine Br.yes rfl ?_)
              | ((with_reducible apply Br.yes) ; (focus omega))
              | ((with_reducible apply Br.no) ; (focus omega))
              | ((with_reducible apply blkAt_step) ; (focus (first
              | ((repeat (first
              | assumption
              )); done)
              )) ; (focus (first | rfl | assumption | omega)) ; (focus (first | rfl | assumption)) ; (try dsimp only))
              ))
              )
            all_goals (conv => whnf)
            all_goals (try dsimp only)
            refine Down_ok hD6 _ ?_
            dsimp only
            repeat' (first
              | ((conv => whnf) <;> (first
              | (with_reducible refine and_same ?_)
              | ((with_reducible apply Br.yes) ; (focus omega))
              | ((with_reducible apply Br.no) ; (focus omega))
              ))
              )
            all_goals (conv => whnf)
            all_goals (try dsimp only)
            refine View_ok hD6 (by dsimp only; omega) _ fun y7 σ7 hg7 ho7 hn7 => ?_
            have hD7 := hD6.keepN hg7
            dsimp only at ho7
            repeat' (first
              | ((conv => whnf) <;> (first
              | ((with_reducible apply Br.no) ; (focus omega))
              | ((with_reducible apply rowsR_own) ; (focus assumption))
              | ((with_reducible apply bytesR_intro) ; (focus (first | rfl | (simp only [bs_take, bs_drop, bs_append]; rfl))))
              ))
              )
            all_goals (conv => whnf)
            all_goals (try dsimp only)
            refine Dirty_ok hD7 hR6.ok.map hR6.ok.few _ fun y8 σ8 hg8 ho8 hn8 => ?_
            have hD8 := hD7.keepN hg8
            dsimp only at ho8
            repeat' (first
              | ((conv => whnf) <;> (first
              | (with_reducible refine and_same ?_)
              | ((with_reducible apply Br.yes) ; (focus omega))
              | ((with_reducible apply Br.no) ; (focus omega))
              | ((with_reducible apply lenR_own) ; (focus assumption))
              ))
              )
            all_goals (conv => whnf)
            all_goals (try dsimp only)
            exact ⟨(left - 1, i + 1, { d with armed := 0, down := true }, σ8), rfl, rfl, ⟨⟨by dsimp only; omega, by dsimp only; omega⟩, hlt1, hD8, hR6, .inl ⟨by dsimp only; omega, rfl⟩, hLs⟩, by dsimp only; omega⟩
          · dsimp only at q1 q2 q3
            subst q1
            repeat' (first
              | ((conv => whnf) <;> (first
              | (with_reducible refine and_same ?_)
              | ((with_reducible apply Br.yes) ; (focus omega))
              | ((with_reducible apply Br.no) ; (focus omega))
              | ((with_reducible apply blkAt_step) ; (focus (first
              | ((repeat (first
              | assumption
              )); done)
              )) ; (focus (first | rfl | assumption | omega)) ; (focus (first | rfl | assumption)) ; (try dsimp only))
              ))
              )
            all_goals (conv => whnf)
            all_goals (try dsimp only)
            refine Down_ok hD6 _ ?_
            rw [q3]
            repeat' (first
              | ((conv => whnf) <;> (first
              | (with_reducible refine and_same ?_)
              | ((with_reducible apply Br.yes) ; (focus omega))
              | ((with_reducible apply Br.no) ; (focus omega))
              ))
              )
            all_goals (conv => whnf)
            all_goals (try dsimp only)
            exact ⟨(left - 1, i + 1, d6, σ6), rfl, rfl, ⟨⟨by dsimp only; omega, by dsimp only; omega⟩, hlt1, hD6, hR6, .inr ⟨by dsimp only; omega, q3, q2⟩, hLn.trans hLs⟩, by dsimp only; omega⟩
        by_cases d2 : Do = 2
        · repeat' (first
            | ((conv => whnf) <;> (first
            | (with_reducible refine and_same ?_)
            | ((with_reducible apply Br.yes) ; (focus omega))
            | ((with_reducible apply Br.no) ; (focus omega))
            | ((with_reducible apply blkAt_step) ; (focus (first
            | ((repeat (first
            | assumption
            )); done)
            )) ; (focus (first | rfl | assumption | omega)) ; (focus (first | rfl | assumption)) ; (try dsimp only))
            | ((with_reducible apply lenR_own) ; (focus assumption))
            ))
            )
          all_goals (conv => whnf)
          all_goals (try dsimp only)
          refine Flush_ok hD5 (by omega) hRd.ok.arm At N _ fun σ6 hD6 hg6 => ?_
          have bx6 := hg6.2 _ _ bx5 fun q => by have := hD.lt _ q; omega
          have hst := fails_step hI (flushLike d At N)
          have hR6 := hRd.flush At N
          have hLn : (flushD d At N).2.L.length = d.L.length := by rw [flush_len]
          generalize flushD d At N = r at *
          obtain ⟨e, d6⟩ := r
          dsimp only at hD6 hR6 hLn ⊢
          rcases hst with ⟨h0, q⟩ | ⟨h0, q⟩ | ⟨h0, q⟩ | ⟨h0, q1, q2, q3⟩
          · obtain ⟨qe, qd⟩ := Prod.mk.inj q
            clear q
            subst qe
            have qs := qd.symm
            subst qs
            have hdn : d.down = true := by
              rcases hI with ⟨_, h⟩ | ⟨h, _⟩
              · exact h
              · omega
            repeat' (first
              | ((conv => whnf) <;> (first
              | (with_reducible refine and_same ?_)
              | (with_reducible refine Br.yes rfl ?_)
              | ((with_reducible apply Br.yes) ; (focus omega))
              | ((with_reducible apply Br.no) ; (focus omega))
              | ((with_reducible apply blkAt_step) ; (focus (first
              | ((repeat (first
              | assumption
              )); done)
              )) ; (focus (first | rfl | assumption | omega)) ; (focus (first | rfl | assumption)) ; (try dsimp only))
              ))
              )
            all_goals (conv => whnf)
            all_goals (try dsimp only)
            refine Down_ok hD6 _ ?_
            rw [hdn]
            repeat' (first
              | ((conv => whnf) <;> (first
              | (with_reducible refine and_same ?_)
              | ((with_reducible apply Br.yes) ; (focus omega))
              | ((with_reducible apply Br.no) ; (focus omega))
              ))
              )
            all_goals (conv => whnf)
            all_goals (try dsimp only)
            refine View_ok hD6 (by omega) _ fun y7 σ7 hg7 ho7 hn7 => ?_
            have hD7 := hD6.keepN hg7
            repeat' (first
              | ((conv => whnf) <;> (first
              | ((with_reducible apply Br.no) ; (focus omega))
              | ((with_reducible apply rowsR_own) ; (focus assumption))
              | ((with_reducible apply bytesR_intro) ; (focus (first | rfl | (simp only [bs_take, bs_drop, bs_append]; rfl))))
              ))
              )
            all_goals (conv => whnf)
            all_goals (try dsimp only)
            refine Dirty_ok hD7 hR6.ok.map hR6.ok.few _ fun y8 σ8 hg8 ho8 hn8 => ?_
            have hD8 := hD7.keepN hg8
            repeat' (first
              | ((conv => whnf) <;> (first
              | (with_reducible refine and_same ?_)
              | ((with_reducible apply Br.yes) ; (focus omega))
              | ((with_reducible apply Br.no) ; (focus omega))
              | ((with_reducible apply lenR_own) ; (focus assumption))
              ))
              )
            all_goals (conv => whnf)
            all_goals (try dsimp only)
            exact ⟨(left, i + 1, d, σ8), rfl, rfl, ⟨⟨hl0, hl8⟩, hlt1, hD8, hR6, hI, hLs⟩, by dsimp only; omega⟩
          · obtain ⟨qe, qd⟩ := Prod.mk.inj q
            clear q
            subst qe
            have qs := qd.symm
            subst qs
            have hdn : d.down = false := by
              rcases hI with ⟨h, _⟩ | ⟨_, h, _⟩
              · omega
              · exact h
            repeat' (first
              | ((conv => whnf) <;> (first
              | (with_reducible refine and_same ?_)
              | ((with_reducible apply Br.yes) ; (focus omega))
              | ((with_reducible apply Br.no) ; (focus omega))
              | ((with_reducible apply blkAt_step) ; (focus (first
              | ((repeat (first
              | assumption
              )); done)
              )) ; (focus (first | rfl | assumption | omega)) ; (focus (first | rfl | assumption)) ; (try dsimp only))
              ))
              )
            all_goals (conv => whnf)
            all_goals (try dsimp only)
            refine Down_ok hD6 _ ?_
            rw [hdn]
            repeat' (first
              | ((conv => whnf) <;> (first
              | (with_reducible refine and_same ?_)
              | ((with_reducible apply Br.yes) ; (focus omega))
              | ((with_reducible apply Br.no) ; (focus omega))
              ))
              )
            all_goals (conv => whnf)
            all_goals (try dsimp only)
            exact ⟨(left, i + 1, d, σ6), rfl, rfl, ⟨⟨hl0, hl8⟩, hlt1, hD6, hR6, hI, hLs⟩, by dsimp only; omega⟩
          · obtain ⟨rfl, rfl⟩ := Prod.mk.inj q
            repeat' (first
              | ((conv => whnf) <;> (first
              | (with_reducible refine and_same ?_)
              | (with_reducible refine Br.yes rfl ?_)
              | ((with_reducible apply Br.yes) ; (focus omega))
              | ((with_reducible apply Br.no) ; (focus omega))
              | ((with_reducible apply blkAt_step) ; (focus (first
              | ((repeat (first
              | assumption
              )); done)
              )) ; (focus (first | rfl | assumption | omega)) ; (focus (first | rfl | assumption)) ; (try dsimp only))
              ))
              )
            all_goals (conv => whnf)
            all_goals (try dsimp only)
            refine Down_ok hD6 _ ?_
            dsimp only
            repeat' (first
              | ((conv => whnf) <;> (first
              | (with_reducible refine and_same ?_)
              | ((with_reducible apply Br.yes) ; (focus omega))
              | ((with_reducible apply Br.no) ; (focus omega))
              ))
              )
            all_goals (conv => whnf)
            all_goals (try dsimp only)
            refine View_ok hD6 (by dsimp only; omega) _ fun y7 σ7 hg7 ho7 hn7 => ?_
            have hD7 := hD6.keepN hg7
            dsimp only at ho7
            repeat' (first
              | ((conv => whnf) <;> (first
              | ((with_reducible apply Br.no) ; (focus omega))
              | ((with_reducible apply rowsR_own) ; (focus assumption))
              | ((with_reducible apply bytesR_intro) ; (focus (first | rfl | (simp only [bs_take, bs_drop, bs_append]; rfl))))
              ))
              )
            all_goals (conv => whnf)
            all_goals (try dsimp only)
            refine Dirty_ok hD7 hR6.ok.map hR6.ok.few _ fun y8 σ8 hg8 ho8 hn8 => ?_
            have hD8 := hD7.keepN hg8
            dsimp only at ho8
            repeat' (first
              | ((conv => whnf) <;> (first
              | (with_reducible refine and_same ?_)
              | ((with_reducible apply Br.yes) ; (focus omega))
              | ((with_reducible apply Br.no) ; (focus omega))
              | ((with_reducible apply lenR_own) ; (focus assumption))
              ))
              )
            all_goals (conv => whnf)
            all_goals (try dsimp only)
            exact ⟨(left - 1, i + 1, { d with armed := 0, down := true }, σ8), rfl, rfl, ⟨⟨by dsimp only; omega, by dsimp only; omega⟩, hlt1, hD8, hR6, .inl ⟨by dsimp only; omega, rfl⟩, hLs⟩, by dsimp only; omega⟩
          · dsimp only at q1 q2 q3
            subst q1
            repeat' (first
              | ((conv => whnf) <;> (first
              | (with_reducible refine and_same ?_)
              | ((with_reducible apply Br.yes) ; (focus omega))
              | ((with_reducible apply Br.no) ; (focus omega))
              | ((with_reducible apply blkAt_step) ; (focus (first
              | ((repeat (first
              | assumption
              )); done)
              )) ; (focus (first | rfl | assumption | omega)) ; (focus (first | rfl | assumption)) ; (try dsimp only))
              ))
              )
            all_goals (conv => whnf)
            all_goals (try dsimp only)
            refine Down_ok hD6 _ ?_
            rw [q3]
            repeat' (first
              | ((conv => whnf) <;> (first
              | (with_reducible refine and_same ?_)
              | ((with_reducible apply Br.yes) ; (focus omega))
              | ((with_reducible apply Br.no) ; (focus omega))
              ))
              )
            all_goals (conv => whnf)
            all_goals (try dsimp only)
            exact ⟨(left - 1, i + 1, d6, σ6), rfl, rfl, ⟨⟨by dsimp only; omega, by dsimp only; omega⟩, hlt1, hD6, hR6, .inr ⟨by dsimp only; omega, q3, q2⟩, hLn.trans hLs⟩, by dsimp only; omega⟩
        have d3 : Do = 3 := by omega
        subst d3
        repeat' (first
          | ((conv => whnf) <;> (first
          | (with_reducible refine and_same ?_)
          | (with_reducible refine Br.yes rfl ?_)
          | ((with_reducible apply Br.no) ; (focus omega))
          | ((with_reducible apply blkAt_step) ; (focus (first
          | ((repeat (first
          | assumption
          )); done)
          )) ; (focus (first | rfl | assumption | omega)) ; (focus (first | rfl | assumption)) ; (try dsimp only))
          | ((with_reducible apply lenR_own) ; (focus assumption))
          ))
          )
        all_goals (conv => whnf)
        all_goals (try dsimp only)
        refine Fence_ok hD5 hRd.ok _ fun σ6 hD6 hg6 => ?_
        have bx6 := hg6.2 _ _ bx5 fun q => by have := hD.lt _ q; omega
        have hst := fails_step hI (fenceLike d)
        have hR6 := hRd.fence
        have hLn : (fenceD d).2.L.length = d.L.length := fence_len hRd
        generalize fenceD d = r at *
        obtain ⟨e, d6⟩ := r
        dsimp only at hD6 hR6 hLn ⊢
        rcases hst with ⟨h0, q⟩ | ⟨h0, q⟩ | ⟨h0, q⟩ | ⟨h0, q1, q2, q3⟩
        · obtain ⟨qe, qd⟩ := Prod.mk.inj q
          clear q
          subst qe
          have qs := qd.symm
          subst qs
          have hdn : d.down = true := by
            rcases hI with ⟨_, h⟩ | ⟨h, _⟩
            · exact h
            · omega
          repeat' (first
            | ((conv => whnf) <;> (first
            | (with_reducible refine and_same ?_)
            | (with_reducible refine Br.yes rfl ?_)
            | ((with_reducible apply Br.yes) ; (focus omega))
            | ((with_reducible apply Br.no) ; (focus omega))
            ))
            )
          all_goals (conv => whnf)
          all_goals (try dsimp only)
          refine Down_ok hD6 _ ?_
          rw [hdn]
          repeat' (first
            | ((conv => whnf) <;> (first
            | (with_reducible refine and_same ?_)
            | ((with_reducible apply Br.yes) ; (focus omega))
            | ((with_reducible apply Br.no) ; (focus omega))
            ))
            )
          all_goals (conv => whnf)
          all_goals (try dsimp only)
          refine View_ok hD6 (by omega) _ fun y7 σ7 hg7 ho7 hn7 => ?_
          have hD7 := hD6.keepN hg7
          repeat' (first
            | ((conv => whnf) <;> (first
            | ((with_reducible apply Br.no) ; (focus omega))
            | ((with_reducible apply rowsR_own) ; (focus assumption))
            | ((with_reducible apply bytesR_intro) ; (focus (first | rfl | (simp only [bs_take, bs_drop, bs_append]; rfl))))
            ))
            )
          all_goals (conv => whnf)
          all_goals (try dsimp only)
          refine Dirty_ok hD7 hR6.ok.map hR6.ok.few _ fun y8 σ8 hg8 ho8 hn8 => ?_
          have hD8 := hD7.keepN hg8
          repeat' (first
            | ((conv => whnf) <;> (first
            | (with_reducible refine and_same ?_)
            | ((with_reducible apply Br.yes) ; (focus omega))
            | ((with_reducible apply Br.no) ; (focus omega))
            | ((with_reducible apply lenR_own) ; (focus assumption))
            ))
            )
          all_goals (conv => whnf)
          all_goals (try dsimp only)
          exact ⟨(left, i + 1, d, σ8), rfl, rfl, ⟨⟨hl0, hl8⟩, hlt1, hD8, hR6, hI, hLs⟩, by dsimp only; omega⟩
        · obtain ⟨qe, qd⟩ := Prod.mk.inj q
          clear q
          subst qe
          have qs := qd.symm
          subst qs
          have hdn : d.down = false := by
            rcases hI with ⟨h, _⟩ | ⟨_, h, _⟩
            · omega
            · exact h
          repeat' (first
            | ((conv => whnf) <;> (first
            | (with_reducible refine and_same ?_)
            | ((with_reducible apply Br.yes) ; (focus omega))
            | ((with_reducible apply Br.no) ; (focus omega))
            ))
            )
          all_goals (conv => whnf)
          all_goals (try dsimp only)
          refine Down_ok hD6 _ ?_
          rw [hdn]
          repeat' (first
            | ((conv => whnf) <;> (first
            | (with_reducible refine and_same ?_)
            | ((with_reducible apply Br.yes) ; (focus omega))
            | ((with_reducible apply Br.no) ; (focus omega))
            ))
            )
          all_goals (conv => whnf)
          all_goals (try dsimp only)
          exact ⟨(left, i + 1, d, σ6), rfl, rfl, ⟨⟨hl0, hl8⟩, hlt1, hD6, hR6, hI, hLs⟩, by dsimp only; omega⟩
        · obtain ⟨rfl, rfl⟩ := Prod.mk.inj q
          repeat' (first
            | ((conv => whnf) <;> (first
            | (with_reducible refine and_same ?_)
            | (with_reducible refine Br.yes rfl ?_)
            | ((with_reducible apply Br.yes) ; (focus omega))
            | ((with_reducible apply Br.no) ; (focus omega))
            ))
            )
          all_goals (conv => whnf)
          all_goals (try dsimp only)
          refine Down_ok hD6 _ ?_
          dsimp only
          repeat' (first
            | ((conv => whnf) <;> (first
            | (with_reducible refine and_same ?_)
            | ((with_reducible apply Br.yes) ; (focus omega))
            | ((with_reducible apply Br.no) ; (focus omega))
            ))
            )
          all_goals (conv => whnf)
          all_goals (try dsimp only)
          refine View_ok hD6 (by dsimp only; omega) _ fun y7 σ7 hg7 ho7 hn7 => ?_
          have hD7 := hD6.keepN hg7
          dsimp only at ho7
          repeat' (first
            | ((conv => whnf) <;> (first
            | ((with_reducible apply Br.no) ; (focus omega))
            | ((with_reducible apply rowsR_own) ; (focus assumption))
            | ((with_reducible apply bytesR_intro) ; (focus (first | rfl | (simp only [bs_take, bs_drop, bs_append]; rfl))))
            ))
            )
          all_goals (conv => whnf)
          all_goals (try dsimp only)
          refine Dirty_ok hD7 hR6.ok.map hR6.ok.few _ fun y8 σ8 hg8 ho8 hn8 => ?_
          have hD8 := hD7.keepN hg8
          dsimp only at ho8
          repeat' (first
            | ((conv => whnf) <;> (first
            | (with_reducible refine and_same ?_)
            | ((with_reducible apply Br.yes) ; (focus omega))
            | ((with_reducible apply Br.no) ; (focus omega))
            | ((with_reducible apply lenR_own) ; (focus assumption))
            ))
            )
          all_goals (conv => whnf)
          all_goals (try dsimp only)
          exact ⟨(left - 1, i + 1, { d with armed := 0, down := true }, σ8), rfl, rfl, ⟨⟨by dsimp only; omega, by dsimp only; omega⟩, hlt1, hD8, hR6, .inl ⟨by dsimp only; omega, rfl⟩, hLs⟩, by dsimp only; omega⟩
        · dsimp only at q1 q2 q3
          subst q1
          repeat' (first
            | ((conv => whnf) <;> (first
            | (with_reducible refine and_same ?_)
            | ((with_reducible apply Br.yes) ; (focus omega))
            | ((with_reducible apply Br.no) ; (focus omega))
            ))
            )
          all_goals (conv => whnf)
          all_goals (try dsimp only)
          refine Down_ok hD6 _ ?_
          rw [q3]
          repeat' (first
            | ((conv => whnf) <;> (first
            | (with_reducible refine and_same ?_)
            | ((with_reducible apply Br.yes) ; (focus omega))
            | ((with_reducible apply Br.no) ; (focus omega))
            ))
            )
          all_goals (conv => whnf)
          all_goals (try dsimp only)
          exact ⟨(left - 1, i + 1, d6, σ6), rfl, rfl, ⟨⟨by dsimp only; omega, by dsimp only; omega⟩, hlt1, hD6, hR6, .inr ⟨by dsimp only; omega, q3, q2⟩, hLn.trans hLs⟩, by dsimp only; omega⟩
    · have hlt' : ac.length ≤ i ∨ 40 ≤ i := by omega
      by_cases hl : 0 < left
      · repeat' (first
          | ((with_reducible refine Side.intro ?_) <;> (first
          | (simp only [List.append_nil, List.nil_append, List.map_nil]; first | exact List.nodup_nil | exact nodup_bid1 _ | exact nodup_bid2 (by assumption))
          | ((first | refine fresh_tup ?_ | skip); (repeat (first |  exact FreshA.sl _ _ FreshA_bs | exact FreshA.sl _ _ FreshA_is | exact FreshA.nils | exact FreshA.nilp | exact FreshA.int _ _ | exact FreshA.bool _ | exact FreshA.str _ | exact fresh_nil | refine fresh_cons ?_ ?_ | with_reducible refine fresh_aggR ?_ | with_reducible refine fresh_agg ?_ | with_reducible exact fresh_nilA | with_reducible refine fresh_consA ?_ ?_)); done)
          ))
          | ((conv => whnf) <;> (first
          | (with_reducible refine and_same ?_)
          | (with_reducible refine and_side ?_ ?_)
          | ((with_reducible apply Br.yes) ; (focus omega))
          | ((with_reducible apply Br.no) ; (focus omega))
          | (with_reducible refine Br.mk (fun _ => ?_) (fun _ => ?_))
          | (with_reducible refine NOut.lit ?_)
          | (with_reducible refine lenR_sl ?_)
          ))
          )
        all_goals (conv => whnf)
        all_goals (try dsimp only)
        all_goals exact ret_bool rfl
      · have hdn : d.down = true := by
          rcases hI with ⟨_, h⟩ | ⟨h, _⟩
          · exact h
          · omega
        have hR8 := hRd.crash []
        have e8 := crashD_nil d
        have hk : askD d 0 1 = 5 := ask_down hdn
        have hL : 0 < d.L.length := by rw [hLs]; have := hG.1; omega
        repeat' (first
          | ((conv => whnf) <;> (first
          | (with_reducible refine and_same ?_)
          | ((with_reducible apply Br.no) ; (focus omega))
          | (with_reducible refine Br.mk (fun _ => ?_) (fun _ => ?_))
          | (with_reducible refine lenR_sl ?_)
          ))
          )
        all_goals (conv => whnf)
        all_goals (try dsimp only)
        all_goals
          refine Load_ok hD (by omega) 0 1 _ (fun q => by rw [hk] at q; cases q) (fun _ => ?_)
          rw [hk]
          skip
          all_goals (conv => whnf)
          all_goals (try dsimp only)
          refine Crash_ok (keep := []) hD hRd.ok (.own (Own.nil _ _)) (by decide) (fun _ _ e => by cases e) _ fun σ8 hD8 hg8 => ?_
          rw [e8] at hD8 hR8
          skip
          all_goals (conv => whnf)
          all_goals (try dsimp only)
          refine Load_ok hD8 (by dsimp only; omega) 0 1 _ (fun _ y9 σ9 hg9 ho9 hn9 => ?_) (fun q => absurd (ask_fit rfl ⟨by decide, by dsimp only; omega, by decide, by dsimp only; omega⟩) q)
          have hD9 := hD8.keepN hg9
          have hf9 := begin_un (d := { d with S := d.L, es := [], armed := 0, down := false }) (at' := 0) (n := 0) (ask_fit rfl ⟨by decide, by dsimp only; omega, by decide, by dsimp only; omega⟩) rfl
          have hF : fenceD { d with S := d.L, es := [], armed := 0, down := false } = (0, { d with S := d.L, es := [], armed := 0, down := false }) := by
            unfold fenceD
            rw [hf9]
            simp [srt]
          repeat' (first
            | ((conv => whnf) <;> (first
            | (with_reducible refine and_same ?_)
            | (with_reducible refine Br.yes rfl ?_)
            ))
            )
          all_goals (conv => whnf)
          all_goals (try dsimp only)
          refine Fence_ok hD9 hR8.ok _ fun σ10 hD10 hg10 => ?_
          rw [hF] at hD10 ⊢
          dsimp only at hD10 ⊢
          repeat' (first
            | ((conv => whnf) <;> (first
            | (with_reducible refine and_same ?_)
            | (with_reducible refine Br.yes rfl ?_)
            ))
            )
          all_goals (conv => whnf)
          all_goals (try dsimp only)
          refine Fence_ok hD10 hR8.ok _ fun σ11 hD11 hg11 => ?_
          rw [hF] at hD11 ⊢
          dsimp only at hD11 ⊢
          repeat' (first
            | ((with_reducible refine Side.intro ?_) <;> (first
            | (simp only [List.append_nil, List.nil_append, List.map_nil]; first | exact List.nodup_nil | exact nodup_bid1 _ | exact nodup_bid2 (by assumption))
            | ((first | refine fresh_tup ?_ | skip); (repeat (first |  exact FreshA.sl _ _ FreshA_bs | exact FreshA.sl _ _ FreshA_is | exact FreshA.nils | exact FreshA.nilp | exact FreshA.int _ _ | exact FreshA.bool _ | exact FreshA.str _ | exact fresh_nil | refine fresh_cons ?_ ?_ | with_reducible refine fresh_aggR ?_ | with_reducible refine fresh_agg ?_ | with_reducible exact fresh_nilA | with_reducible refine fresh_consA ?_ ?_)); done)
            ))
            | ((conv => whnf) <;> (first
            | (with_reducible refine and_same ?_)
            | (with_reducible refine and_side ?_ ?_)
            | (with_reducible refine Br.yes rfl ?_)
            | (with_reducible refine NOut.lit ?_)
            ))
            )
          all_goals (conv => whnf)
          all_goals (try dsimp only)
          exact ret_bool rfl
  · intro hG σ2 hg2
    repeat' (first
      | ((with_reducible refine Side.intro ?_) <;> (first
      | (simp only [List.append_nil, List.nil_append, List.map_nil]; first | exact List.nodup_nil | exact nodup_bid1 _ | exact nodup_bid2 (by assumption))
      | ((first | refine fresh_tup ?_ | skip); (repeat (first |  exact FreshA.sl _ _ FreshA_bs | exact FreshA.sl _ _ FreshA_is | exact FreshA.nils | exact FreshA.nilp | exact FreshA.int _ _ | exact FreshA.bool _ | exact FreshA.str _ | exact fresh_nil | refine fresh_cons ?_ ?_ | with_reducible refine fresh_aggR ?_ | with_reducible refine fresh_agg ?_ | with_reducible exact fresh_nilA | with_reducible refine fresh_consA ?_ ?_)); done)
      ))
      | ((conv => whnf) <;> (first
      | (with_reducible refine and_same ?_)
      | (with_reducible refine and_side ?_ ?_)
      | (with_reducible refine Br.yes rfl ?_)
      | ((with_reducible apply Br.yes) ; (focus omega))
      | (with_reducible refine NOut.lit ?_)
      ))
      )
    all_goals (conv => whnf)
    all_goals (try dsimp only)
    exact ret_bool rfl
end Go.Proofs.Ythakanioekmhbaa
