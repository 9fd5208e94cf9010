import Derived.Test.YtjbfdhnfdehdeaaPtags1
namespace Go.Proofs.Ytjbfdhnfdehdeaa
open Go Go.Proofs.Ytjbfdhnfdehdeaa.V
set_option maxRecDepth 20000
attribute [local irreducible] CallS AOK AOKn ALoop Side Ref.ok
/-! ### Which heaps of format 1 are right -/
def tc (U : List (Int × Int × Int)) (D : List (List UInt8)) (j : Nat) : Bool :=
  match U[j]?, D[j]? with
  | some u, some d => decide (0 ≤ u.2.2 ∧ u.2.2 < 32 ∧ (d.length : Int) ≤ (u.2.1 - 2) * 8) && (U.take j).all (fun v => decide (v.2.2 ≠ u.2.2))
  | _, _ => false
def rT (fr to : Int) (U : List (Int × Int × Int)) (D : List (List UInt8)) : Bool := rG fr to (spo U) && (decide (U.length = D.length) && (List.range U.length).all (tc U D))
theorem tc_some {U : List (Int × Int × Int)} {D : List (List UInt8)} {j : Nat} {u : Int × Int × Int} {d : List UInt8} (h1 : U[j]? = some u) (h2 : D[j]? = some d) : tc U D j = (decide (0 ≤ u.2.2 ∧ u.2.2 < 32 ∧ (d.length : Int) ≤ (u.2.1 - 2) * 8) && (U.take j).all (fun v => decide (v.2.2 ≠ u.2.2))) := by
  unfold tc; rw [h1, h2]
theorem rT_false {fr to : Int} {U : List (Int × Int × Int)} {D : List (List UInt8)} {j : Nat} (hj : j < U.length) (h : tc U D j = false) : rT fr to U D = false := by
  have : (List.range U.length).all (tc U D) = false := by
    rw [List.all_eq_false]
    exact ⟨j, by simpa using hj, by simp [h]⟩
  rw [rT, this, Bool.and_false, Bool.and_false]
theorem rT_true {fr to : Int} {U : List (Int × Int × Int)} {D : List (List UInt8)} (h1 : rG fr to (spo U) = true) (h2 : U.length = D.length) (h : ∀ j, j < U.length → tc U D j = true) : rT fr to U D = true := by
  have : (List.range U.length).all (tc U D) = true := by
    rw [List.all_eq_true]
    intro j hj
    exact h j (by simpa using hj)
  rw [rT, h1, this, decide_eq_true h2]; rfl
theorem rT_iff {fr to : Int} {U : List (Int × Int × Int)} {D : List (List UInt8)} : rT fr to U D = true ↔ rG fr to (spo U) = true ∧ U.length = D.length ∧ ∀ j, j < U.length → tc U D j = true := by
  constructor
  · intro h
    simp only [rT, Bool.and_eq_true, decide_eq_true_eq, List.all_eq_true] at h
    exact ⟨h.1, h.2.1, fun j hj => h.2.2 j (by simpa using hj)⟩
  · rintro ⟨h1, h2, h3⟩
    exact rT_true h1 h2 h3
theorem rG_iff {fr to : Int} {L : List (Int × Int)} : rG fr to L = true ↔ bG fr to = true ∧ sOk to fr L = true := by simp [rG]
theorem u_bd {fr to : Int} {U : List (Int × Int × Int)} (h : rG fr to (spo U) = true) {i : Nat} {u : Int × Int × Int} (hu : U[i]? = some u) : 0 ≤ fr ∧ fr ≤ to ∧ to ≤ 2048 ∧ fr ≤ u.1 ∧ u.1 ≤ to ∧ 4 ≤ u.2.1 ∧ u.2.1 ≤ to - u.1 := by
  obtain ⟨hb, hs⟩ := rG_iff.1 h
  obtain ⟨b1, b2, b3, b4, b5⟩ := bG_iff.1 hb
  have := sC_at hs (i := i) (p := (u.1, u.2.1)) (by simp [spo, hu])
  have hep := endp_take hs b2 i
  simp only [sC, decide_eq_true_eq] at this
  refine ⟨b1, b2, b3, ?_, this.2.1, this.2.2.1, this.2.2.2.1⟩
  omega
def had (S : List Int) : List AV := (List.range 32).map fun (j : Nat) => AV.bool (decide ((j : Int) ∈ S))
theorem had_length (S : List Int) : (had S).length = 32 := by simp [had]
theorem had_get {S : List Int} {x : Int} (h0 : 0 ≤ x) (h1 : x < 32) {b : Bool} (hb : decide (x ∈ S) = b) : (had S)[0 + x.toNat * 1]? = some (.bool b) := by
  have e : ((x.toNat : Nat) : Int) = x := by omega
  have hlt : x.toNat < 32 := by omega
  simp only [had, Nat.zero_add, Nat.mul_one, List.getElem?_map, List.getElem?_range hlt, Option.map_some, e, hb]
theorem had_lay {S : List Int} {x : Int} (h0 : 0 ≤ x) (h1 : x < 32) : lay (had S) (0 + x.toNat * 1) [.bool true] = had (S ++ [x]) := by
  have hlt : x.toNat < 32 := by omega
  have e : ((x.toNat : Nat) : Int) = x := by omega
  unfold lay
  apply List.ext_getElem?
  intro j
  rw [Nat.zero_add, Nat.mul_one, List.append_assoc, List.getElem?_append, List.length_take, had_length, Nat.min_eq_left (by omega)]
  split
  · rename_i hj
    rw [List.getElem?_take_of_lt hj]
    simp only [had, List.getElem?_map, List.getElem?_range (show j < 32 by omega), Option.map_some]
    have : ((j : Nat) : Int) ≠ x := by omega
    simp [this]
  · rename_i hj
    by_cases hjx : j = x.toNat
    · subst hjx
      simp only [Nat.sub_self, had, List.getElem?_map, List.getElem?_range hlt, Option.map_some]
      simp [e]
    · rw [List.getElem?_append_right (by simp; omega), List.getElem?_drop]
      simp only [List.length_singleton]
      rw [show x.toNat + 1 + (j - x.toNat - 1) = j from by omega]
      simp only [had, List.getElem?_map]
      by_cases h32 : j < 32
      · simp only [List.getElem?_range h32, Option.map_some]
        have : ((j : Nat) : Int) ≠ x := by omega
        simp [this]
      · rw [List.getElem?_eq_none (by simpa using h32)]; rfl
theorem had_nil : had [] = [AV.bool false, .bool false, .bool false, .bool false, .bool false, .bool false, .bool false, .bool false, .bool false, .bool false, .bool false, .bool false, .bool false, .bool false, .bool false, .bool false, .bool false, .bool false, .bool false, .bool false, .bool false, .bool false, .bool false, .bool false, .bool false, .bool false, .bool false, .bool false, .bool false, .bool false, .bool false, .bool false] := rfl
attribute [local irreducible] had
set_option maxHeartbeats 1000000 in
theorem tright_ok (fr to : Int) (U : List (Int × Int × Int)) (D : List (List UInt8)) (hU : U.length ≤ 4611686) (hD : D.length ≤ 4611686) (hd : ∀ d, d ∈ D → d.length ≤ 4611686018) : AOKn Try.prog F.tags_right [.int .i64 fr, .int .i64 to, .sl 3 (bk U) false, .sl 1 (dat D) false] fun y => y = .bool (rT fr to U D) := by
  have hn := bk_length U
  have hm := dat_length D
  refine AOKn.by_steps mixed fc_tags_right_ok (by simp [fc_tags_right]) ?_
  skip
  all_goals (conv => whnf)
  all_goals (try dsimp only)
  refine spansOf_call U hU (Looks.bk _ _ _) fun H1 y hg1 hy hyn => ?_
  skip
  all_goals (conv => whnf)
  all_goals (try dsimp only)
  refine gaps_Right_call fr to (spo U) (by rw [spo_length]; exact hU) (Looks.ownsp hy) fun H2 hg2 => ?_
  cases hr : rG fr to (spo U)
  · rw [show rT fr to U D = false from by rw [rT, hr]; rfl]
    repeat' (first
      | ((with_reducible refine Side.intro ?_) <;> (first
      | (simp only [List.append_nil, List.nil_append, List.map_nil]; first | exact List.nodup_nil | exact nodup_bid1 _ | exact nodup_bid2 (by assumption))
      | ((first | refine fresh_tup ?_ | skip); (repeat (first | exact fresh_sp _ |  exact FreshA.sl _ _ FreshA_bs | exact FreshA.sl _ _ FreshA_is | exact FreshA.nils | exact FreshA.nilp | exact FreshA.int _ _ | exact FreshA.bool _ | exact FreshA.str _ | exact fresh_nil | refine fresh_cons ?_ ?_ | with_reducible refine fresh_aggR ?_ | with_reducible refine fresh_agg ?_ | with_reducible exact fresh_nilA | with_reducible refine fresh_consA ?_ ?_)); done)
      ))
      | ((conv => whnf) <;> (first
      | (with_reducible refine and_side ?_ ?_)
      | (with_reducible refine NOut.lit ?_)
      ))
      )
    all_goals (conv => whnf)
    all_goals (try dsimp only)
    exact ret_bool rfl
  · by_cases hl : U.length = D.length
    · repeat' (first
        | ((conv => whnf) <;> (first
        | (with_reducible refine and_same ?_)
        | ((with_reducible apply Br.no) ; (focus omega))
        | (with_reducible refine lenR_sl ?_)
        ))
        )
      all_goals (conv => whnf)
      all_goals (try dsimp only)
      refine loop_at (α := Nat × AH) (fun a => [(27, .int .i64 a.1)]) (fun a => a.2) (fun a => a.1 ≤ U.length ∧ (∀ j, j < a.1 → tc U D j = true) ∧ a.2[H2.length]? = some { sz := 32, els := [had ((U.take a.1).map fun u => u.2.2)], gen := 0, wr := true, pure := true }) (fun a => U.length - a.1) (0, _) ⟨Nat.zero_le _, fun j hj => by dsimp only at hj; omega, by rw [show had ((U.take 0).map fun u => u.2.2) = _ from had_nil]; exact get_new⟩ rfl rfl ?_
      rintro ⟨i, σ⟩ ⟨hi, hok, hb⟩
      dsimp only at hi hok hb ⊢
      by_cases hlt : i < U.length
      · obtain ⟨u, hu, hu'⟩ := getN hlt
        obtain ⟨d, hdd, hdd'⟩ := getN (l := D) (k := i) (by omega)
        have hdm := hd d (List.mem_of_getElem? hdd')
        have hdl := bs_length d
        have hub := u_bd hr hu'
        have htc := tc_some hu' hdd'
        have hbl := (List.getElem?_eq_some_iff.1 hb).1
        have hmem : (U.take i).all (fun v => decide (v.2.2 ≠ u.2.2)) = !decide (u.2.2 ∈ (U.take i).map fun u => u.2.2) := by
          rw [Bool.eq_iff_iff]
          simp only [List.all_eq_true, decide_eq_true_eq, Bool.not_eq_true', decide_eq_false_iff_not, List.mem_map, not_exists, not_and]
        have hnext : (U.take (i + 1)).map (fun u => u.2.2) = (U.take i).map (fun u => u.2.2) ++ [u.2.2] := by rw [List.take_add_one, hu']; simp
        rw [hmem] at htc
        generalize (U.take i).map (fun u => u.2.2) = S at *
        by_cases hx : 0 ≤ u.2.2 ∧ u.2.2 < 32
        · cases hs : decide (u.2.2 ∈ S)
          · have hget := had_get hx.1 hx.2 hs
            rw [hs] at htc
            by_cases hlen : (d.length : Int) ≤ (u.2.1 - 2) * 8
            · rw [decide_eq_true ⟨hx.1, hx.2, hlen⟩] at htc
              repeat' (first
                | ((with_reducible refine Side.intro ?_) <;> (first
                | omega
                | exact Nat.le_of_ble_eq_true rfl
                | exact rfl
                ))
                | ((conv => whnf) <;> (first
                | (with_reducible refine and_same ?_)
                | (with_reducible refine and_side ?_ ?_)
                | ((with_reducible apply Br.yes) ; (focus omega))
                | ((with_reducible apply Br.no) ; (focus omega))
                | ((with_reducible apply blkAt_intro) ; (focus (first
                | ((repeat (first
                | assumption
                | exact get_new
                | exact get_set get_new
                | apply get_old
                | (apply get_set_ne; (focus (first | omega | (simp only [newB_length, List.length_set, List.length_append, List.length_singleton, List.length_nil]; omega))))
                )); done)
                )) ; (focus (first | rfl | assumption | omega)) ; (try dsimp only))
                | ((with_reducible apply nthR_bk) ; (focus assumption))
                | (with_reducible refine ia_sl ?_ ?_)
                ))
                )
              all_goals (conv => whnf)
              all_goals (try dsimp only)
              refine nthK_intro hget ?_
              repeat' (first
                | ((with_reducible refine Side.intro ?_) <;> (first
                | omega
                | exact rfl
                ))
                | ((conv => whnf) <;> (first
                | (with_reducible refine and_same ?_)
                | (with_reducible refine and_side ?_ ?_)
                | ((with_reducible apply Br.yes) ; (focus omega))
                | ((with_reducible apply Br.no) ; (focus omega))
                | ((with_reducible apply blkAt_intro) ; (focus (first
                | ((repeat (first
                | assumption
                | exact get_set get_new
                | apply get_old
                | (apply get_set_ne; (focus (first | omega | (simp only [newB_length, List.length_set, List.length_append, List.length_singleton, List.length_nil]; omega))))
                )); done)
                )) ; (focus (first | rfl | assumption | omega)) ; (try dsimp only))
                | ((with_reducible apply nthR_dat) ; (focus assumption))
                | (with_reducible refine ia_sl ?_ ?_)
                | (with_reducible refine lenR_sl ?_)
                ))
                )
              all_goals (conv => whnf)
              all_goals (try dsimp only)
              rotate_left
              · exact Side.intro (by rw [had_length]; show 0 + u.2.2.toNat * 1 + 1 ≤ 32; omega)
              rw [layK_eq, show (AV.bool true).cells = [.bool true] from rfl, had_lay hx.1 hx.2, ← hnext]
              repeat' (first
                | ((conv => whnf) <;> (first
                | (with_reducible refine and_same ?_)
                | ((with_reducible apply Br.yes) ; (focus omega))
                ))
                )
              all_goals (conv => whnf)
              all_goals (try dsimp only)
              refine ⟨(i + 1, _), rfl, rfl, ⟨by dsimp only; omega, fun j hj => ?_, get_set (gr_get (by (repeat (first
                    | exact Gr.refl _ _
                    | refine Gr.setNew ?_ (by first | exact Nat.le_refl _ | (simp only [newB_length, List.length_set, List.length_append, List.length_singleton]; omega) | omega) _
                    | refine Gr.addN ?_ _
                    ))) hb)⟩, by dsimp only; omega⟩
              by_cases e : j = i
              · rw [e, htc]; rfl
              · exact hok j (by dsimp only at hj; omega)
            · rw [decide_eq_false (fun q => hlen q.2.2)] at htc
              rw [rT_false hlt htc]
              repeat' (first
                | ((with_reducible refine Side.intro ?_) <;> (first
                | omega
                | exact Nat.le_of_ble_eq_true rfl
                | exact rfl
                ))
                | ((conv => whnf) <;> (first
                | (with_reducible refine and_same ?_)
                | (with_reducible refine and_side ?_ ?_)
                | ((with_reducible apply Br.yes) ; (focus omega))
                | ((with_reducible apply Br.no) ; (focus omega))
                | ((with_reducible apply blkAt_intro) ; (focus (first
                | ((repeat (first
                | assumption
                | exact get_new
                | exact get_set get_new
                | apply get_old
                | (apply get_set_ne; (focus (first | omega | (simp only [newB_length, List.length_set, List.length_append, List.length_singleton, List.length_nil]; omega))))
                )); done)
                )) ; (focus (first | rfl | assumption | omega)) ; (try dsimp only))
                | ((with_reducible apply nthR_bk) ; (focus assumption))
                | (with_reducible refine ia_sl ?_ ?_)
                ))
                )
              all_goals (conv => whnf)
              all_goals (try dsimp only)
              refine nthK_intro hget ?_
              repeat' (first
                | ((with_reducible refine Side.intro ?_) <;> (first
                | omega
                | (simp only [List.append_nil, List.nil_append, List.map_nil]; first | exact List.nodup_nil | exact nodup_bid1 _ | exact nodup_bid2 (by assumption))
                | ((first | refine fresh_tup ?_ | skip); (repeat (first | exact fresh_sp _ |  exact FreshA.sl _ _ FreshA_bs | exact FreshA.sl _ _ FreshA_is | exact FreshA.nils | exact FreshA.nilp | exact FreshA.int _ _ | exact FreshA.bool _ | exact FreshA.str _ | exact fresh_nil | refine fresh_cons ?_ ?_ | with_reducible refine fresh_aggR ?_ | with_reducible refine fresh_agg ?_ | with_reducible exact fresh_nilA | with_reducible refine fresh_consA ?_ ?_)); done)
                ))
                | ((conv => whnf) <;> (first
                | (with_reducible refine and_same ?_)
                | (with_reducible refine and_side ?_ ?_)
                | ((with_reducible apply Br.yes) ; (focus omega))
                | ((with_reducible apply blkAt_intro) ; (focus (first
                | ((repeat (first
                | exact get_set get_new
                )); done)
                )) ; (focus (first | rfl | assumption | omega)) ; (try dsimp only))
                | ((with_reducible apply nthR_dat) ; (focus assumption))
                | (with_reducible refine ia_sl ?_ ?_)
                | (with_reducible refine NOut.lit ?_)
                | (with_reducible refine lenR_sl ?_)
                ))
                )
              all_goals (conv => whnf)
              all_goals (try dsimp only)
              all_goals first
                | omega
                | exact ret_bool rfl
          · rw [hs, Bool.not_true, Bool.and_false] at htc
            rw [rT_false hlt htc]
            have hget := had_get hx.1 hx.2 hs
            repeat' (first
              | ((with_reducible refine Side.intro ?_) <;> (first
              | omega
              | exact Nat.le_of_ble_eq_true rfl
              | exact rfl
              ))
              | ((conv => whnf) <;> (first
              | (with_reducible refine and_same ?_)
              | (with_reducible refine and_side ?_ ?_)
              | ((with_reducible apply Br.yes) ; (focus omega))
              | ((with_reducible apply Br.no) ; (focus omega))
              | ((with_reducible apply blkAt_intro) ; (focus (first
              | ((repeat (first
              | assumption
              | exact get_new
              | exact get_set get_new
              | apply get_old
              | (apply get_set_ne; (focus (first | omega | (simp only [newB_length, List.length_set, List.length_append, List.length_singleton, List.length_nil]; omega))))
              )); done)
              )) ; (focus (first | rfl | assumption | omega)) ; (try dsimp only))
              | ((with_reducible apply nthR_bk) ; (focus assumption))
              | (with_reducible refine ia_sl ?_ ?_)
              ))
              )
            all_goals (conv => whnf)
            all_goals (try dsimp only)
            refine nthK_intro hget ?_
            repeat' (first
              | ((with_reducible refine Side.intro ?_) <;> (first
              | (simp only [List.append_nil, List.nil_append, List.map_nil]; first | exact List.nodup_nil | exact nodup_bid1 _ | exact nodup_bid2 (by assumption))
              | ((first | refine fresh_tup ?_ | skip); (repeat (first | exact fresh_sp _ |  exact FreshA.sl _ _ FreshA_bs | exact FreshA.sl _ _ FreshA_is | exact FreshA.nils | exact FreshA.nilp | exact FreshA.int _ _ | exact FreshA.bool _ | exact FreshA.str _ | exact fresh_nil | refine fresh_cons ?_ ?_ | with_reducible refine fresh_aggR ?_ | with_reducible refine fresh_agg ?_ | with_reducible exact fresh_nilA | with_reducible refine fresh_consA ?_ ?_)); done)
              ))
              | ((conv => whnf) <;> (first
              | (with_reducible refine and_side ?_ ?_)
              | (with_reducible refine NOut.lit ?_)
              ))
              )
            all_goals (conv => whnf)
            all_goals (try dsimp only)
            exact ret_bool rfl
        · rw [decide_eq_false (fun q => hx ⟨q.1, q.2.1⟩), Bool.false_and] at htc
          rw [rT_false hlt htc]
          repeat' (first
            | ((with_reducible refine Side.intro ?_) <;> (first
            | omega
            | exact Nat.le_of_ble_eq_true rfl
            | (simp only [List.append_nil, List.nil_append, List.map_nil]; first | exact List.nodup_nil | exact nodup_bid1 _ | exact nodup_bid2 (by assumption))
            | ((first | refine fresh_tup ?_ | skip); (repeat (first | exact fresh_sp _ |  exact FreshA.sl _ _ FreshA_bs | exact FreshA.sl _ _ FreshA_is | exact FreshA.nils | exact FreshA.nilp | exact FreshA.int _ _ | exact FreshA.bool _ | exact FreshA.str _ | exact fresh_nil | refine fresh_cons ?_ ?_ | with_reducible refine fresh_aggR ?_ | with_reducible refine fresh_agg ?_ | with_reducible exact fresh_nilA | with_reducible refine fresh_consA ?_ ?_)); done)
            | exact rfl
            ))
            | ((conv => whnf) <;> (first
            | (with_reducible refine and_same ?_)
            | (with_reducible refine and_side ?_ ?_)
            | ((with_reducible apply Br.yes) ; (focus omega))
            | (with_reducible refine Br.mk (fun _ => ?_) (fun _ => ?_))
            | ((with_reducible apply blkAt_intro) ; (focus (first
            | ((repeat (first
            | exact get_new
            | exact get_set get_new
            )); done)
            )) ; (focus (first | rfl | assumption | omega)) ; (try dsimp only))
            | ((with_reducible apply nthR_bk) ; (focus assumption))
            | (with_reducible refine ia_sl ?_ ?_)
            | (with_reducible refine NOut.lit ?_)
            ))
            )
          all_goals (conv => whnf)
          all_goals (try dsimp only)
          all_goals first
            | omega
            | exact ret_bool rfl
      · rw [rT_true hr hl (fun j hj => hok j (by omega))]
        repeat' (first
          | ((with_reducible refine Side.intro ?_) <;> (first
          | (simp only [List.append_nil, List.nil_append, List.map_nil]; first | exact List.nodup_nil | exact nodup_bid1 _ | exact nodup_bid2 (by assumption))
          | ((first | refine fresh_tup ?_ | skip); (repeat (first | exact fresh_sp _ |  exact FreshA.sl _ _ FreshA_bs | exact FreshA.sl _ _ FreshA_is | exact FreshA.nils | exact FreshA.nilp | exact FreshA.int _ _ | exact FreshA.bool _ | exact FreshA.str _ | exact fresh_nil | refine fresh_cons ?_ ?_ | with_reducible refine fresh_aggR ?_ | with_reducible refine fresh_agg ?_ | with_reducible exact fresh_nilA | with_reducible refine fresh_consA ?_ ?_)); done)
          ))
          | ((conv => whnf) <;> (first
          | (with_reducible refine and_same ?_)
          | (with_reducible refine and_side ?_ ?_)
          | ((with_reducible apply Br.no) ; (focus omega))
          | (with_reducible refine NOut.lit ?_)
          ))
          )
        all_goals (conv => whnf)
        all_goals (try dsimp only)
        exact ret_bool rfl
    · rw [show rT fr to U D = false from by rw [rT, hr, decide_eq_false hl]; rfl]
      repeat' (first
        | ((with_reducible refine Side.intro ?_) <;> (first
        | (simp only [List.append_nil, List.nil_append, List.map_nil]; first | exact List.nodup_nil | exact nodup_bid1 _ | exact nodup_bid2 (by assumption))
        | ((first | refine fresh_tup ?_ | skip); (repeat (first | exact fresh_sp _ |  exact FreshA.sl _ _ FreshA_bs | exact FreshA.sl _ _ FreshA_is | exact FreshA.nils | exact FreshA.nilp | exact FreshA.int _ _ | exact FreshA.bool _ | exact FreshA.str _ | exact fresh_nil | refine fresh_cons ?_ ?_ | with_reducible refine fresh_aggR ?_ | with_reducible refine fresh_agg ?_ | with_reducible exact fresh_nilA | with_reducible refine fresh_consA ?_ ?_)); done)
        ))
        | ((conv => whnf) <;> (first
        | (with_reducible refine and_same ?_)
        | (with_reducible refine and_side ?_ ?_)
        | ((with_reducible apply Br.yes) ; (focus omega))
        | (with_reducible refine NOut.lit ?_)
        | (with_reducible refine lenR_sl ?_)
        ))
        )
      all_goals (conv => whnf)
      all_goals (try dsimp only)
      exact ret_bool rfl
theorem tright_call (fr to : Int) (U : List (Int × Int × Int)) (D : List (List UInt8)) (hU : U.length ≤ 4611686) (hD : D.length ≤ 4611686) (hd : ∀ d, d ∈ D → d.length ≤ 4611686018) {σ : AH} {x y : AV} (hx : Looks σ x (.sl 3 (Go.Proofs.Ytjbfdhnfdehdeaa.bk U) false)) (hy : Looks σ y (.sl 1 (Go.Proofs.Ytjbfdhnfdehdeaa.dat D) false)) {Q : AV → AH → Prop} (h : ∀ σ', Gr σ σ' none → Q (.bool (rT fr to U D)) σ') : CallS Try.prog F.tags_right [.int .i64 fr, .int .i64 to, x, y] σ Q :=
  call_one (tright_ok fr to U D hU hD hd) (.cons (.int _ _ _) (.cons (.int _ _ _) (.cons hx (.cons hy .nil)))) rfl h
set_option maxHeartbeats 1000000 in
theorem RRight_ok (fr to : Int) (U : List (Int × Int × Int)) (D : List (List UInt8)) (hU : U.length ≤ 4611686) (hD : D.length ≤ 4611686) (hd : ∀ d, d ∈ D → d.length ≤ 4611686018) : AOKn Try.prog F.joistref11_Right [.int .i64 fr, .int .i64 to, .sl 3 (bk U) false, .sl 1 (dat D) false] fun y => y = .bool (rT fr to U D) := by
  have hn := bk_length U
  have hm := dat_length D
  refine AOKn.by_steps mixed fc_joistref11_Right_ok (by simp [fc_joistref11_Right]) ?_
  skip
  all_goals (conv => whnf)
  all_goals (try dsimp only)
  refine spans_call U hU (Looks.bk _ _ _) fun H1 y hg1 hy hyn => ?_
  skip
  all_goals (conv => whnf)
  all_goals (try dsimp only)
  refine ref10_Right_call fr to (spo U) (by rw [spo_length]; exact hU) (Looks.ownsp hy) fun H2 hg2 => ?_
  cases hr : rG fr to (spo U)
  · rw [show rT fr to U D = false from by rw [rT, hr]; rfl]
    repeat' (first
      | ((with_reducible refine Side.intro ?_) <;> (first
      | (simp only [List.append_nil, List.nil_append, List.map_nil]; first | exact List.nodup_nil | exact nodup_bid1 _ | exact nodup_bid2 (by assumption))
      | ((first | refine fresh_tup ?_ | skip); (repeat (first | exact fresh_sp _ |  exact FreshA.sl _ _ FreshA_bs | exact FreshA.sl _ _ FreshA_is | exact FreshA.nils | exact FreshA.nilp | exact FreshA.int _ _ | exact FreshA.bool _ | exact FreshA.str _ | exact fresh_nil | refine fresh_cons ?_ ?_ | with_reducible refine fresh_aggR ?_ | with_reducible refine fresh_agg ?_ | with_reducible exact fresh_nilA | with_reducible refine fresh_consA ?_ ?_)); done)
      ))
      | ((conv => whnf) <;> (first
      | (with_reducible refine and_side ?_ ?_)
      | (with_reducible refine NOut.lit ?_)
      ))
      )
    all_goals (conv => whnf)
    all_goals (try dsimp only)
    exact ret_bool rfl
  · by_cases hl : U.length = D.length
    · repeat' (first
        | ((conv => whnf) <;> (first
        | (with_reducible refine and_same ?_)
        | ((with_reducible apply Br.no) ; (focus omega))
        | (with_reducible refine lenR_sl ?_)
        ))
        )
      all_goals (conv => whnf)
      all_goals (try dsimp only)
      refine loop_at (α := Nat) (fun a => [(10, .int .i64 a)]) (fun _ => H2) (fun a => a ≤ U.length ∧ ∀ j, j < a → tc U D j = true) (fun a => U.length - a) 0 ⟨Nat.zero_le _, fun j hj => by omega⟩ rfl rfl ?_
      rintro i ⟨hi, hok⟩
      by_cases hlt : i < U.length
      · obtain ⟨u, hu, hu'⟩ := getN hlt
        obtain ⟨d, hdd, hdd'⟩ := getN (l := D) (k := i) (by omega)
        have hdm := hd d (List.mem_of_getElem? hdd')
        have hdl := bs_length d
        have hub := u_bd hr hu'
        have htc := tc_some hu' hdd'
        by_cases hx : 0 ≤ u.2.2 ∧ u.2.2 < 32 ∧ (d.length : Int) ≤ (u.2.1 - 2) * 8
        · rw [decide_eq_true hx, Bool.true_and] at htc
          repeat' (first
            | ((with_reducible refine Side.intro ?_) <;> (first
            | omega
            ))
            | ((conv => whnf) <;> (first
            | (with_reducible refine and_same ?_)
            | ((with_reducible apply Br.yes) ; (focus omega))
            | ((with_reducible apply Br.no) ; (focus omega))
            | ((with_reducible apply nthR_bk) ; (focus assumption))
            | ((with_reducible apply nthR_dat) ; (focus assumption))
            | (with_reducible refine ia_sl ?_ ?_)
            | (with_reducible refine lenR_sl ?_)
            ))
            )
          all_goals (conv => whnf)
          all_goals (try dsimp only)
          refine loop_at (α := Nat) (fun a => [(11, .int .i64 a)]) (fun _ => H2) (fun a => a ≤ i ∧ ∀ j v, j < a → U[j]? = some v → v.2.2 ≠ u.2.2) (fun a => i - a) 0 ⟨Nat.zero_le _, fun j v hj => by omega⟩ rfl rfl ?_
          rintro k ⟨hk, hno⟩
          by_cases hki : k < i
          · obtain ⟨v, hv, hv'⟩ := getN (l := U) (k := k) (by omega)
            by_cases hvu : v.2.2 = u.2.2
            · have hf : (U.take i).all (fun v => decide (v.2.2 ≠ u.2.2)) = false := by
                rw [List.all_eq_false]
                refine ⟨v, ?_, by simp [hvu]⟩
                exact List.mem_of_getElem? (i := k) (by rw [List.getElem?_take_of_lt hki]; exact hv')
              rw [hf] at htc
              rw [rT_false hlt htc]
              repeat' (first
                | ((with_reducible refine Side.intro ?_) <;> (first
                | omega
                | (simp only [List.append_nil, List.nil_append, List.map_nil]; first | exact List.nodup_nil | exact nodup_bid1 _ | exact nodup_bid2 (by assumption))
                | ((first | refine fresh_tup ?_ | skip); (repeat (first | exact fresh_sp _ |  exact FreshA.sl _ _ FreshA_bs | exact FreshA.sl _ _ FreshA_is | exact FreshA.nils | exact FreshA.nilp | exact FreshA.int _ _ | exact FreshA.bool _ | exact FreshA.str _ | exact fresh_nil | refine fresh_cons ?_ ?_ | with_reducible refine fresh_aggR ?_ | with_reducible refine fresh_agg ?_ | with_reducible exact fresh_nilA | with_reducible refine fresh_consA ?_ ?_)); done)
                ))
                | ((conv => whnf) <;> (first
                | (with_reducible refine and_same ?_)
                | (with_reducible refine and_side ?_ ?_)
                | ((with_reducible apply Br.yes) ; (focus omega))
                | ((with_reducible apply nthR_bk) ; (focus assumption))
                | (with_reducible refine ia_sl ?_ ?_)
                | (with_reducible refine NOut.lit ?_)
                ))
                )
              all_goals (conv => whnf)
              all_goals (try dsimp only)
              all_goals first
                | omega
                | exact ret_bool rfl
            · repeat' (first
                | ((with_reducible refine Side.intro ?_) <;> (first
                | omega
                ))
                | ((conv => whnf) <;> (first
                | (with_reducible refine and_same ?_)
                | ((with_reducible apply Br.yes) ; (focus omega))
                | ((with_reducible apply Br.no) ; (focus omega))
                | ((with_reducible apply nthR_bk) ; (focus assumption))
                | (with_reducible refine ia_sl ?_ ?_)
                ))
                )
              all_goals (conv => whnf)
              all_goals (try dsimp only)
              all_goals first
                | omega
                | skip
              refine ⟨k + 1, rfl, rfl, ⟨by omega, fun j w hj hw => ?_⟩, by omega⟩
              by_cases e : j = k
              · subst e
                rw [hv'] at hw; cases hw
                exact hvu
              · exact hno j w (by omega) hw
          · have ht : (U.take i).all (fun v => decide (v.2.2 ≠ u.2.2)) = true := by
              rw [List.all_eq_true]
              intro v hv
              obtain ⟨j, hj⟩ := List.mem_iff_getElem?.1 hv
              have hjl := (List.getElem?_eq_some_iff.1 hj).1
              rw [List.length_take] at hjl
              rw [List.getElem?_take_of_lt (by omega)] at hj
              exact decide_eq_true (hno j v (by omega) hj)
            rw [ht] at htc
            repeat' (first
              | ((conv => whnf) <;> (first
              | (with_reducible refine and_same ?_)
              | ((with_reducible apply Br.yes) ; (focus omega))
              | ((with_reducible apply Br.no) ; (focus omega))
              ))
              )
            all_goals (conv => whnf)
            all_goals (try dsimp only)
            refine ⟨i + 1, rfl, rfl, ⟨by omega, fun j hj => ?_⟩, by omega⟩
            by_cases e : j = i
            · rw [e]; exact htc
            · exact hok j (by omega)
        · rw [decide_eq_false hx, Bool.false_and] at htc
          rw [rT_false hlt htc]
          repeat' (first
            | ((with_reducible refine Side.intro ?_) <;> (first
            | omega
            | (simp only [List.append_nil, List.nil_append, List.map_nil]; first | exact List.nodup_nil | exact nodup_bid1 _ | exact nodup_bid2 (by assumption))
            | ((first | refine fresh_tup ?_ | skip); (repeat (first | exact fresh_sp _ |  exact FreshA.sl _ _ FreshA_bs | exact FreshA.sl _ _ FreshA_is | exact FreshA.nils | exact FreshA.nilp | exact FreshA.int _ _ | exact FreshA.bool _ | exact FreshA.str _ | exact fresh_nil | refine fresh_cons ?_ ?_ | with_reducible refine fresh_aggR ?_ | with_reducible refine fresh_agg ?_ | with_reducible exact fresh_nilA | with_reducible refine fresh_consA ?_ ?_)); done)
            ))
            | ((conv => whnf) <;> (first
            | (with_reducible refine and_same ?_)
            | (with_reducible refine and_side ?_ ?_)
            | ((with_reducible apply Br.yes) ; (focus omega))
            | (with_reducible refine Br.mk (fun _ => ?_) (fun _ => ?_))
            | ((with_reducible apply nthR_bk) ; (focus assumption))
            | ((with_reducible apply nthR_dat) ; (focus assumption))
            | (with_reducible refine ia_sl ?_ ?_)
            | (with_reducible refine NOut.lit ?_)
            | (with_reducible refine lenR_sl ?_)
            ))
            )
          all_goals (conv => whnf)
          all_goals (try dsimp only)
          all_goals first
            | omega
            | exact ret_bool rfl
      · rw [rT_true hr hl (fun j hj => hok j (by omega))]
        repeat' (first
          | ((with_reducible refine Side.intro ?_) <;> (first
          | (simp only [List.append_nil, List.nil_append, List.map_nil]; first | exact List.nodup_nil | exact nodup_bid1 _ | exact nodup_bid2 (by assumption))
          | ((first | refine fresh_tup ?_ | skip); (repeat (first | exact fresh_sp _ |  exact FreshA.sl _ _ FreshA_bs | exact FreshA.sl _ _ FreshA_is | exact FreshA.nils | exact FreshA.nilp | exact FreshA.int _ _ | exact FreshA.bool _ | exact FreshA.str _ | exact fresh_nil | refine fresh_cons ?_ ?_ | with_reducible refine fresh_aggR ?_ | with_reducible refine fresh_agg ?_ | with_reducible exact fresh_nilA | with_reducible refine fresh_consA ?_ ?_)); done)
          ))
          | ((conv => whnf) <;> (first
          | (with_reducible refine and_same ?_)
          | (with_reducible refine and_side ?_ ?_)
          | ((with_reducible apply Br.no) ; (focus omega))
          | (with_reducible refine NOut.lit ?_)
          | (with_reducible refine lenR_sl ?_)
          ))
          )
        all_goals (conv => whnf)
        all_goals (try dsimp only)
        exact ret_bool rfl
    · rw [show rT fr to U D = false from by rw [rT, hr, decide_eq_false hl]; rfl]
      repeat' (first
        | ((with_reducible refine Side.intro ?_) <;> (first
        | (simp only [List.append_nil, List.nil_append, List.map_nil]; first | exact List.nodup_nil | exact nodup_bid1 _ | exact nodup_bid2 (by assumption))
        | ((first | refine fresh_tup ?_ | skip); (repeat (first | exact fresh_sp _ |  exact FreshA.sl _ _ FreshA_bs | exact FreshA.sl _ _ FreshA_is | exact FreshA.nils | exact FreshA.nilp | exact FreshA.int _ _ | exact FreshA.bool _ | exact FreshA.str _ | exact fresh_nil | refine fresh_cons ?_ ?_ | with_reducible refine fresh_aggR ?_ | with_reducible refine fresh_agg ?_ | with_reducible exact fresh_nilA | with_reducible refine fresh_consA ?_ ?_)); done)
        ))
        | ((conv => whnf) <;> (first
        | (with_reducible refine and_same ?_)
        | (with_reducible refine and_side ?_ ?_)
        | ((with_reducible apply Br.yes) ; (focus omega))
        | (with_reducible refine NOut.lit ?_)
        | (with_reducible refine lenR_sl ?_)
        ))
        )
      all_goals (conv => whnf)
      all_goals (try dsimp only)
      exact ret_bool rfl
theorem RRight_call (fr to : Int) (U : List (Int × Int × Int)) (D : List (List UInt8)) (hU : U.length ≤ 4611686) (hD : D.length ≤ 4611686) (hd : ∀ d, d ∈ D → d.length ≤ 4611686018) {σ : AH} {x y : AV} (hx : Looks σ x (.sl 3 (Go.Proofs.Ytjbfdhnfdehdeaa.bk U) false)) (hy : Looks σ y (.sl 1 (Go.Proofs.Ytjbfdhnfdehdeaa.dat D) false)) {Q : AV → AH → Prop} (h : ∀ σ', Gr σ σ' none → Q (.bool (rT fr to U D)) σ') : CallS Try.prog F.joistref11_Right [.int .i64 fr, .int .i64 to, x, y] σ Q :=
  call_one (RRight_ok fr to U D hU hD hd) (.cons (.int _ _ _) (.cons (.int _ _ _) (.cons hx (.cons hy .nil)))) rfl h
end Go.Proofs.Ytjbfdhnfdehdeaa
