import Derived.Test.YtjjmcpnbaahkgaaPsuper2
namespace Go.Proofs.Ytjjmcpnbaahkgaa
open Go Go.Proofs.Ytjjmcpnbaahkgaa.V
set_option maxRecDepth 20000
attribute [local irreducible] CallS AOK AOKn ALoop Side Ref.ok
theorem front_seal (s : List UInt8) : front (sealB s) = s := by
  unfold front; rw [sealB_length, show s.length + 8 - 8 = s.length from by omega]; simp [sealB]
theorem open_seal (s : List UInt8) : openOk (sealB s) = true ∧ openR (sealB s) = s := by
  have h : openOk (sealB s) = true := decide_eq_true ⟨by rw [sealB_length]; omega, by rw [front_seal]⟩
  exact ⟨h, by rw [openR, h, if_pos rfl, front_seal]⟩
def vb (t : List UInt8) (i : Nat) : Int := (val (wd t i) : Nat)
def supV (t : List UInt8) : Bool := supB (vb t 2) (vb t 3) (vb t 4) (vb t 5) (vb t 1) (vb t 6)
def wrV (t : List UInt8) : List UInt8 := wrR (vb t 2) (vb t 3) (vb t 4) (vb t 5) (vb t 1) (vb t 6)
def hdOk (t : List UInt8) : Bool := decide (t.length = 64) && (supV t && decide (wrV t = t))
def hdI (t : List UInt8) (i : Nat) : Int := if hdOk t then vb t i else 0
theorem hdOk_iff {t : List UInt8} : hdOk t = true ↔ (t.length = 64 ∧ supV t = true ∧ wrV t = t) := by simp [hdOk]
theorem wd_take (t : List UInt8) (n i : Nat) (h : i * 8 + 8 ≤ n) : wd (t.take n) i = wd t i := by
  unfold wd
  rw [List.drop_take, List.take_take]
  congr 1
  omega
theorem vals7 (t : List UInt8) : vals t 7 = [vb t 0, vb t 1, vb t 2, vb t 3, vb t 4, vb t 5, vb t 6] := rfl
theorem vals8 (t : List UInt8) : vals t 8 = [vb t 0, vb t 1, vb t 2, vb t 3, vb t 4, vb t 5, vb t 6, vb t 7] := rfl
theorem vb_take (t : List UInt8) (i : Nat) (h : i * 8 + 8 ≤ 56) : vb (t.take 56) i = vb t i := by unfold vb; rw [wd_take t 56 i h]
theorem hd_one {t : List UInt8} (h1 : openOk t = true) (h2 : allOk (front t) = true) (h3 : (allR (front t)).length = 7) : t.length = 64 ∧ allR (front t) = [vb t 0, vb t 1, vb t 2, vb t 3, vb t 4, vb t 5, vb t 6] := by
  have h4 : 8 ≤ t.length := (of_decide_eq_true h1).1
  have e1 : allR (front t) = vals (front t) ((front t).length / 8) := by rw [allR, h2, if_pos rfl]
  have h5 : (front t).length / 8 = 7 := by rw [e1] at h3; simpa [vals] using h3
  have h6 : (front t).length % 8 = 0 := by
    simp only [allOk, Bool.and_eq_true, decide_eq_true_eq] at h2; exact h2.1
  have h7 : (front t).length = t.length - 8 := by unfold front; rw [List.length_take]; omega
  have h8 : t.length = 64 := by omega
  refine ⟨h8, ?_⟩
  have h9 : front t = t.take 56 := by unfold front; rw [h8]
  rw [e1, h5, h9, vals7, vb_take t 0 (by omega), vb_take t 1 (by omega), vb_take t 2 (by omega), vb_take t 3 (by omega), vb_take t 4 (by omega), vb_take t 5 (by omega), vb_take t 6 (by omega)]
theorem hd_seal {t : List UInt8} (h : hdOk t = true) : ∃ l : List Int, l.all mayW = true ∧ l.length = 7 ∧ t = sealB (cat l) := by
  obtain ⟨h1, h2, h3⟩ := hdOk_iff.1 h
  refine ⟨hw (vb t 2) (vb t 3) (vb t 4) (vb t 5) (vb t 1) (vb t 6), hw_may h2, rfl, ?_⟩
  have e : wrV t = sealB (cat (hw (vb t 2) (vb t 3) (vb t 4) (vb t 5) (vb t 1) (vb t 6))) := by
    unfold wrV wrR; rw [if_pos (show supB (vb t 2) (vb t 3) (vb t 4) (vb t 5) (vb t 1) (vb t 6) = true from h2)]
  rw [← e, h3]
theorem hd_two {t : List UInt8} (h : hdOk t = true) : openOk t = true ∧ allOk (front t) = true ∧ (allR (front t)).length = 7 := by
  obtain ⟨l, h1, h2, h3⟩ := hd_seal h
  obtain ⟨a1, a2⟩ := all_cat h1
  rw [h3]
  refine ⟨(open_seal _).1, by rw [front_seal]; exact a1, by rw [front_seal, a2, h2]⟩
theorem hd_four {t : List UInt8} (h : hdOk t = true) : allOk t = true ∧ (allR t).length = 8 := by
  obtain ⟨l, h1, h2, h3⟩ := hd_seal h
  have hs := sum_lt (cat l)
  have hm : (l ++ [((sum (cat l) : Nat) : Int)]).all mayW = true := by
    rw [List.all_append, h1]
    simp only [List.all_cons, List.all_nil, Bool.and_true, Bool.true_and, mayW, decide_eq_true_eq]
    omega
  have hc : cat (l ++ [((sum (cat l) : Nat) : Int)]) = t := by
    rw [cat_append, cat_one, Int.toNat_natCast, h3]; rfl
  obtain ⟨a1, a2⟩ := all_cat hm
  rw [hc] at a1 a2
  exact ⟨a1, by rw [a2, List.length_append, h2]; rfl⟩
theorem hd_three {t : List UInt8} (h2 : allOk t = true) (h3 : (allR t).length = 8) : t.length = 64 ∧ allR t = [vb t 0, vb t 1, vb t 2, vb t 3, vb t 4, vb t 5, vb t 6, vb t 7] := by
  have e1 : allR t = vals t (t.length / 8) := by rw [allR, h2, if_pos rfl]
  have h5 : t.length / 8 = 8 := by rw [e1] at h3; simpa [vals] using h3
  have h6 : t.length % 8 = 0 := by
    simp only [allOk, Bool.and_eq_true, decide_eq_true_eq] at h2; exact h2.1
  refine ⟨by omega, ?_⟩
  rw [e1, h5, vals8]
def hdA (t : List UInt8) : AV := shp (hdI t 2) (hdI t 3) (hdI t 4) (hdI t 5)
theorem hd_no {t : List UInt8} (h : hdOk t = false) : ∀ i, hdI t i = 0 := fun i => by rw [hdI, h]; rfl
theorem hd_yes {t : List UInt8} (h : hdOk t = true) : ∀ i, hdI t i = vb t i := fun i => by rw [hdI, h]; rfl
theorem Read_ok (t : List UInt8) (hs : t.length ≤ 4611686018) : AOKn Try.prog F.super_Read [.sl 1 (bs t) false] fun y => y = .tup [hdA t, .int .i64 (hdI t 1), .int .i64 (hdI t 6), .bool (hdOk t)] := by
  have hn := bs_length t
  unfold hdA shp
  refine AOKn.by_steps mixed fc_super_Read_ok (by simp [fc_super_Read]) ?_
  skip
  all_goals (conv => whnf)
  all_goals (try dsimp only)
  refine call_sl1 (Open_ok t (by omega)) (.cons (.bs _ _ _) .nil) rfl fun H1 f hg1 hf hn1 => ?_
  have b0 := hg1.2 0 _ rfl (by simp)
  have hfl : (openR t).length ≤ t.length := by
    unfold openR; split
    · unfold front; rw [List.length_take]; omega
    · simp
  skip
  all_goals (conv => whnf)
  all_goals (try dsimp only)
  refine All_call (openR t) (by omega) (Looks.ownbs hf) fun H2 w hg2 hw2 hn2 => ?_
  replace b0 := hg2.2 0 _ (by (first
        | ((repeat (first
        | assumption
        )); done)
        )) (by simp)
  have hwl := is_length (allR (openR t))
  by_cases hq : openOk t = true ∧ allOk (front t) = true ∧ (allR (front t)).length = 7
  · obtain ⟨q1, q2, q3⟩ := hq
    obtain ⟨h64, hall⟩ := hd_one q1 q2 q3
    have hR : openR t = front t := by rw [openR, q1, if_pos rfl]
    rw [hR, hall] at hw2 hwl
    rw [hR, q1, q2]
    have hl7 : [vb t 0, vb t 1, vb t 2, vb t 3, vb t 4, vb t 5, vb t 6].length = 7 := rfl
    have g1 : [vb t 0, vb t 1, vb t 2, vb t 3, vb t 4, vb t 5, vb t 6][Int.toNat 1]? = some (vb t 1) := rfl
    have g2 : [vb t 0, vb t 1, vb t 2, vb t 3, vb t 4, vb t 5, vb t 6][Int.toNat 2]? = some (vb t 2) := rfl
    have g3 : [vb t 0, vb t 1, vb t 2, vb t 3, vb t 4, vb t 5, vb t 6][Int.toNat 3]? = some (vb t 3) := rfl
    have g4 : [vb t 0, vb t 1, vb t 2, vb t 3, vb t 4, vb t 5, vb t 6][Int.toNat 4]? = some (vb t 4) := rfl
    have g5 : [vb t 0, vb t 1, vb t 2, vb t 3, vb t 4, vb t 5, vb t 6][Int.toNat 5]? = some (vb t 5) := rfl
    have g6 : [vb t 0, vb t 1, vb t 2, vb t 3, vb t 4, vb t 5, vb t 6][Int.toNat 6]? = some (vb t 6) := rfl
    have eW : wrR (vb t 2) (vb t 3) (vb t 4) (vb t 5) (vb t 1) (vb t 6) = wrV t := rfl
    have eE : wrE (vb t 2) (vb t 3) (vb t 4) (vb t 5) (vb t 1) (vb t 6) = if supV t then 0 else 1 := rfl
    have eO : hdOk t = (supV t && decide (wrV t = t)) := by rw [hdOk, decide_eq_true h64, Bool.true_and]
    have hno := @hd_no t
    have hyes := @hd_yes t
    repeat' (first
      | ((with_reducible refine Side.intro ?_) <;> (first
      | omega
      | exact Nat.le_of_ble_eq_true rfl
      | exact rfl
      ))
      | ((conv => whnf) <;> (first
      | (with_reducible refine and_same ?_)
      | (with_reducible refine and_side ?_ ?_)
      | (with_reducible refine Br.no (by omega) ?_)
      | ((with_reducible apply blkAt_intro) ; (focus (first
      | ((repeat (first
      | assumption
      | exact get_set (by assumption)
      )); done)
      )) ; (focus (first | rfl | assumption | omega)) ; (try dsimp only))
      | (with_reducible refine lenR_own (by assumption) ?_)
      | (with_reducible refine ia_own (by assumption) ?_ ?_ (fun _ _ _ _ _ => ?_))
      ))
      )
    all_goals (conv => whnf)
    all_goals (try dsimp only)
    refine Write_call (vb t 2) (vb t 3) (vb t 4) (vb t 5) (vb t 1) (vb t 6) fun H3 y hg3 hy hn3 => ?_
    rw [eE]
    rw [eW] at hy
    replace b0 := hg3.2 0 _ (by (first
          | ((repeat (first
          | exact get_set (by assumption)
          )); done)
          )) (by simp)
    cases hv : supV t
    · have h0 : hdOk t = false := by rw [eO, hv]; rfl
      have hz := hno h0
      rw [h0, hz, hz, hz, hz, hz, hz]
      simp only [Bool.false_eq_true, if_false]
      repeat' (first
        | ((with_reducible refine Side.intro ?_) <;> (first
        | exact Nat.le_of_ble_eq_true rfl
        | (simp only [List.append_nil, List.nil_append, List.map_nil]; first | exact List.nodup_nil | exact nodup_bid1 _ | exact nodup_bid2 (by assumption))
        | ((first | refine fresh_tup ?_ | skip); (repeat (first |  exact FreshA.sl _ _ FreshA_bs | exact FreshA.sl _ _ FreshA_is | exact FreshA.nils | exact FreshA.nilp | exact FreshA.int _ _ | exact FreshA.bool _ | exact FreshA.str _ | exact fresh_nil | refine fresh_cons ?_ ?_ | with_reducible refine fresh_aggR ?_ | with_reducible refine fresh_agg ?_ | with_reducible exact fresh_nilA | with_reducible refine fresh_consA ?_ ?_)); done)
        | exact rfl
        ))
        | ((conv => whnf) <;> (first
        | (with_reducible refine and_same ?_)
        | (with_reducible refine and_side ?_ ?_)
        | (with_reducible refine Br.yes (by omega) ?_)
        | ((with_reducible apply blkAt_intro) ; (focus (first
        | ((repeat (first
        | assumption
        | exact get_set (by assumption)
        )); done)
        )) ; (focus (first | rfl | assumption | omega)) ; (try dsimp only))
        | (with_reducible refine NOut.lit ?_)
        ))
        )
      all_goals (conv => whnf)
      all_goals (try dsimp only)
      all_goals exact ret_same rfl
    · simp only [if_true]
      have hwl2 : (wrV t).length = 64 := by
        have : wrV t = sealB (cat (hw (vb t 2) (vb t 3) (vb t 4) (vb t 5) (vb t 1) (vb t 6))) := by
          unfold wrV wrR; rw [if_pos (show supB (vb t 2) (vb t 3) (vb t 4) (vb t 5) (vb t 1) (vb t 6) = true from hv)]
        rw [this, sealB_length, hw_len]
      repeat' (first
        | ((conv => whnf) <;> (first
        | (with_reducible refine and_same ?_)
        | (with_reducible refine Br.no (by omega) ?_)
        ))
        )
      all_goals (conv => whnf)
      all_goals (try dsimp only)
      refine call_one (bytes_Equal_ok (wrV t) t) (.cons (Looks.ownbs hy) (.cons (.bs _ _ _) .nil)) rfl fun H4 hg4 => ?_
      replace b0 := hg4.2 0 _ (by (first
            | ((repeat (first
            | assumption
            )); done)
            )) (by simp)
      by_cases he : wrV t = t
      · have h0 : hdOk t = true := by rw [eO, hv, decide_eq_true he]; rfl
        have hz := hyes h0
        rw [h0, hz, hz, hz, hz, hz, hz, decide_eq_true he]
        repeat' (first
          | ((with_reducible refine Side.intro ?_) <;> (first
          | exact Nat.le_of_ble_eq_true rfl
          | (simp only [List.append_nil, List.nil_append, List.map_nil]; first | exact List.nodup_nil | exact nodup_bid1 _ | exact nodup_bid2 (by assumption))
          | ((first | refine fresh_tup ?_ | skip); (repeat (first |  exact FreshA.sl _ _ FreshA_bs | exact FreshA.sl _ _ FreshA_is | exact FreshA.nils | exact FreshA.nilp | exact FreshA.int _ _ | exact FreshA.bool _ | exact FreshA.str _ | exact fresh_nil | refine fresh_cons ?_ ?_ | with_reducible refine fresh_aggR ?_ | with_reducible refine fresh_agg ?_ | with_reducible exact fresh_nilA | with_reducible refine fresh_consA ?_ ?_)); done)
          | exact rfl
          ))
          | ((conv => whnf) <;> (first
          | (with_reducible refine and_same ?_)
          | (with_reducible refine and_side ?_ ?_)
          | ((with_reducible apply blkAt_intro) ; (focus (first
          | ((repeat (first
          | assumption
          | exact get_set (by assumption)
          )); done)
          )) ; (focus (first | rfl | assumption | omega)) ; (try dsimp only))
          | (with_reducible refine NOut.lit ?_)
          ))
          )
        all_goals (conv => whnf)
        all_goals (try dsimp only)
        all_goals exact ret_same rfl
      · have h0 : hdOk t = false := by rw [eO, hv, decide_eq_false he]; rfl
        have hz := hno h0
        rw [h0, hz, hz, hz, hz, hz, hz, decide_eq_false he]
        repeat' (first
          | ((with_reducible refine Side.intro ?_) <;> (first
          | exact Nat.le_of_ble_eq_true rfl
          | (simp only [List.append_nil, List.nil_append, List.map_nil]; first | exact List.nodup_nil | exact nodup_bid1 _ | exact nodup_bid2 (by assumption))
          | ((first | refine fresh_tup ?_ | skip); (repeat (first |  exact FreshA.sl _ _ FreshA_bs | exact FreshA.sl _ _ FreshA_is | exact FreshA.nils | exact FreshA.nilp | exact FreshA.int _ _ | exact FreshA.bool _ | exact FreshA.str _ | exact fresh_nil | refine fresh_cons ?_ ?_ | with_reducible refine fresh_aggR ?_ | with_reducible refine fresh_agg ?_ | with_reducible exact fresh_nilA | with_reducible refine fresh_consA ?_ ?_)); done)
          | exact rfl
          ))
          | ((conv => whnf) <;> (first
          | (with_reducible refine and_same ?_)
          | (with_reducible refine and_side ?_ ?_)
          | ((with_reducible apply blkAt_intro) ; (focus (first
          | ((repeat (first
          | assumption
          | exact get_set (by assumption)
          )); done)
          )) ; (focus (first | rfl | assumption | omega)) ; (try dsimp only))
          | (with_reducible refine NOut.lit ?_)
          ))
          )
        all_goals (conv => whnf)
        all_goals (try dsimp only)
        all_goals exact ret_same rfl
  · have h0 : hdOk t = false := by
      cases hh : hdOk t
      · rfl
      · exact absurd (hd_two hh) hq
    have hz := hd_no h0
    rw [h0, hz, hz, hz, hz, hz, hz]
    cases q1 : openOk t
    · repeat' (first
        | ((with_reducible refine Side.intro ?_) <;> (first
        | exact Nat.le_of_ble_eq_true rfl
        | (simp only [List.append_nil, List.nil_append, List.map_nil]; first | exact List.nodup_nil | exact nodup_bid1 _ | exact nodup_bid2 (by assumption))
        | ((first | refine fresh_tup ?_ | skip); (repeat (first |  exact FreshA.sl _ _ FreshA_bs | exact FreshA.sl _ _ FreshA_is | exact FreshA.nils | exact FreshA.nilp | exact FreshA.int _ _ | exact FreshA.bool _ | exact FreshA.str _ | exact fresh_nil | refine fresh_cons ?_ ?_ | with_reducible refine fresh_aggR ?_ | with_reducible refine fresh_agg ?_ | with_reducible exact fresh_nilA | with_reducible refine fresh_consA ?_ ?_)); done)
        | exact rfl
        ))
        | ((conv => whnf) <;> (first
        | (with_reducible refine and_same ?_)
        | (with_reducible refine and_side ?_ ?_)
        | ((with_reducible apply blkAt_intro) ; (focus (first
        | ((repeat (first
        | assumption
        | exact get_set (by assumption)
        )); done)
        )) ; (focus (first | rfl | assumption | omega)) ; (try dsimp only))
        | (with_reducible refine NOut.lit ?_)
        ))
        )
      all_goals (conv => whnf)
      all_goals (try dsimp only)
      all_goals exact ret_same rfl
    · have hR : openR t = front t := by rw [openR, q1, if_pos rfl]
      rw [hR] at hwl ⊢
      cases q2 : allOk (front t)
      · repeat' (first
          | ((with_reducible refine Side.intro ?_) <;> (first
          | exact Nat.le_of_ble_eq_true rfl
          | (simp only [List.append_nil, List.nil_append, List.map_nil]; first | exact List.nodup_nil | exact nodup_bid1 _ | exact nodup_bid2 (by assumption))
          | ((first | refine fresh_tup ?_ | skip); (repeat (first |  exact FreshA.sl _ _ FreshA_bs | exact FreshA.sl _ _ FreshA_is | exact FreshA.nils | exact FreshA.nilp | exact FreshA.int _ _ | exact FreshA.bool _ | exact FreshA.str _ | exact fresh_nil | refine fresh_cons ?_ ?_ | with_reducible refine fresh_aggR ?_ | with_reducible refine fresh_agg ?_ | with_reducible exact fresh_nilA | with_reducible refine fresh_consA ?_ ?_)); done)
          | exact rfl
          ))
          | ((conv => whnf) <;> (first
          | (with_reducible refine and_same ?_)
          | (with_reducible refine and_side ?_ ?_)
          | ((with_reducible apply blkAt_intro) ; (focus (first
          | ((repeat (first
          | assumption
          | exact get_set (by assumption)
          )); done)
          )) ; (focus (first | rfl | assumption | omega)) ; (try dsimp only))
          | (with_reducible refine NOut.lit ?_)
          ))
          )
        all_goals (conv => whnf)
        all_goals (try dsimp only)
        all_goals exact ret_same rfl
      · have q3 : (allR (front t)).length ≠ 7 := fun e => hq ⟨q1, q2, e⟩
        rw [hR] at hw2
        repeat' (first
          | ((with_reducible refine Side.intro ?_) <;> (first
          | exact Nat.le_of_ble_eq_true rfl
          | (simp only [List.append_nil, List.nil_append, List.map_nil]; first | exact List.nodup_nil | exact nodup_bid1 _ | exact nodup_bid2 (by assumption))
          | ((first | refine fresh_tup ?_ | skip); (repeat (first |  exact FreshA.sl _ _ FreshA_bs | exact FreshA.sl _ _ FreshA_is | exact FreshA.nils | exact FreshA.nilp | exact FreshA.int _ _ | exact FreshA.bool _ | exact FreshA.str _ | exact fresh_nil | refine fresh_cons ?_ ?_ | with_reducible refine fresh_aggR ?_ | with_reducible refine fresh_agg ?_ | with_reducible exact fresh_nilA | with_reducible refine fresh_consA ?_ ?_)); done)
          | exact rfl
          ))
          | ((conv => whnf) <;> (first
          | (with_reducible refine and_same ?_)
          | (with_reducible refine and_side ?_ ?_)
          | (with_reducible refine Br.yes (by omega) ?_)
          | ((with_reducible apply blkAt_intro) ; (focus (first
          | ((repeat (first
          | assumption
          | exact get_set (by assumption)
          )); done)
          )) ; (focus (first | rfl | assumption | omega)) ; (try dsimp only))
          | (with_reducible refine lenR_own (by assumption) ?_)
          | (with_reducible refine NOut.lit ?_)
          ))
          )
        all_goals (conv => whnf)
        all_goals (try dsimp only)
        all_goals exact ret_same rfl
theorem hdA_plain (t : List UInt8) : (hdA t).plain = true := rfl
theorem call_four {f : Nat} {xs vs : List AV} {σ : AH} {Q : AV → AH → Prop} {y1 y2 y3 y4 : AV} (h : AOKn Try.prog f vs fun y => y = .tup [y1, y2, y3, y4]) (hs : LooksL σ xs vs) (h1 : y1.plain = true) (h2 : y2.plain = true) (h3 : y3.plain = true) (h4 : y4.plain = true) (hQ : ∀ σ', Gr σ σ' none → Q (.tup [y1, y2, y3, y4]) σ') : CallS Try.prog f xs σ Q := by
  refine h.call hs ?_
  rintro _ x σ1 rfl hg hG
  obtain ⟨m, rfl, ha⟩ := hG.tup_inv
  obtain ⟨x1, r, k, rfl, a1, _, _, hb⟩ := ha.cons_inv
  obtain ⟨x2, r2, k2, rfl, a2, _, _, hc⟩ := hb.cons_inv
  obtain ⟨x3, r3, k3, rfl, a3, _, _, hd⟩ := hc.cons_inv
  obtain ⟨x4, r4, k4, rfl, a4, _, _, he⟩ := hd.cons_inv
  rw [he.nil_inv]
  obtain rfl := a1.same_inv h1
  obtain rfl := a2.same_inv h2
  obtain rfl := a3.same_inv h3
  obtain rfl := a4.same_inv h4
  exact hQ σ1 hg
theorem Read_call (t : List UInt8) (hs : t.length ≤ 4611686018) {σ : AH} {x : AV} (hx : Looks σ x (.sl 1 (bs t) false)) {Q : AV → AH → Prop} (h : ∀ σ', Gr σ σ' none → Q (.tup [hdA t, .int .i64 (hdI t 1), .int .i64 (hdI t 6), .bool (hdOk t)]) σ') : CallS Try.prog F.super_Read [x] σ Q :=
  call_four (Read_ok t hs) (.cons hx .nil) rfl rfl rfl rfl h
theorem ok_set_sh {σ : AH} {i id : Nat} {b : Blk} (h : i ≠ id) : Side (Ref.ok σ (σ.set i b) (.sh id)) := by
  refine Side.intro ?_
  simp only [Ref.ok]
  intro c hc; exact ⟨c, get_set_ne h hc, rfl, rfl, rfl, rfl⟩
theorem ok_set_co {σ : AH} {i id : Nat} {b : Blk} (h : i ≠ id) : Side (Ref.ok σ (σ.set i b) (.co id)) := by
  refine Side.intro ?_
  simp only [Ref.ok]
  intro c hc; exact ⟨c, get_set_ne h hc, rfl, rfl, rfl, rfl⟩
set_option maxHeartbeats 4000000 in
theorem RRead_ok (t : List UInt8) (hs : t.length ≤ 4611686018) : AOKn Try.prog F.joistref17_Read [.sl 1 (bs t) false] fun y => y = .tup [hdA t, .int .i64 (hdI t 1), .int .i64 (hdI t 6), .bool (hdOk t)] := by
  have hn := bs_length t
  unfold hdA shp
  refine AOKn.by_steps mixed fc_joistref17_Read_ok (by simp [fc_joistref17_Read]) ?_
  skip
  all_goals (conv => whnf)
  all_goals (try dsimp only)
  refine RAll_call t (by omega) (.bs _ _ _) fun H2 w hg2 hw2 hn2 => ?_
  have b0 := hg2.2 0 _ rfl (by simp)
  have lb := (List.getElem?_eq_some_iff.1 b0).1
  have hwl := is_length (allR t)
  by_cases hq : allOk t = true ∧ (allR t).length = 8
  · obtain ⟨q2, q3⟩ := hq
    obtain ⟨h64, hall⟩ := hd_three q2 q3
    rw [hall] at hw2 hwl
    rw [q2]
    have hl7 : [vb t 0, vb t 1, vb t 2, vb t 3, vb t 4, vb t 5, vb t 6, vb t 7].length = 8 := rfl
    have g1 : [vb t 0, vb t 1, vb t 2, vb t 3, vb t 4, vb t 5, vb t 6, vb t 7][Int.toNat 1]? = some (vb t 1) := rfl
    have g2 : [vb t 0, vb t 1, vb t 2, vb t 3, vb t 4, vb t 5, vb t 6, vb t 7][Int.toNat 2]? = some (vb t 2) := rfl
    have g3 : [vb t 0, vb t 1, vb t 2, vb t 3, vb t 4, vb t 5, vb t 6, vb t 7][Int.toNat 3]? = some (vb t 3) := rfl
    have g4 : [vb t 0, vb t 1, vb t 2, vb t 3, vb t 4, vb t 5, vb t 6, vb t 7][Int.toNat 4]? = some (vb t 4) := rfl
    have g5 : [vb t 0, vb t 1, vb t 2, vb t 3, vb t 4, vb t 5, vb t 6, vb t 7][Int.toNat 5]? = some (vb t 5) := rfl
    have g6 : [vb t 0, vb t 1, vb t 2, vb t 3, vb t 4, vb t 5, vb t 6, vb t 7][Int.toNat 6]? = some (vb t 6) := rfl
    have eW : wrR (vb t 2) (vb t 3) (vb t 4) (vb t 5) (vb t 1) (vb t 6) = wrV t := rfl
    have eE : wrE (vb t 2) (vb t 3) (vb t 4) (vb t 5) (vb t 1) (vb t 6) = if supV t then 0 else 1 := rfl
    have eO : hdOk t = (supV t && decide (wrV t = t)) := by rw [hdOk, decide_eq_true h64, Bool.true_and]
    have hno := @hd_no t
    have hyes := @hd_yes t
    obtain ⟨id, gen, sp, rfl, hb⟩ := hw2.ne (by simp [is])
    clear hw2
    have lid := (List.getElem?_eq_some_iff.1 hb).1
    have hid : 0 ≠ id := by
      have := hn2 id rfl
      simp only [newB_length, List.length_nil] at this
      omega
    repeat' (first
      | (with_reducible exact Gr.side (by ((repeat (first | exact Gr.refl _ _ | assumption | with_reducible refine Gr.trans ?_ (Gr.boxN _ _ _ _ _) | refine Gr.setNew ?_ (by first | exact Nat.le_refl _ | (simp only [newB_length, List.length_set, List.length_append, List.length_singleton]; omega) | omega) _ | refine Gr.addN ?_ _ | refine Gr.newN ?_ _ _ _ | exact Gr.trans (by assumption) (by assumption) | refine Gr.trans ?_ (by assumption) | refine Gr.trans (by assumption) ?_)); (first | done | fail))) _)
      | ((with_reducible refine Side.intro ?_) <;> (first
      | omega
      | exact Nat.le_of_ble_eq_true rfl
      | exact rfl
      ))
      | ((conv => whnf) <;> (first
      | (with_reducible refine and_same ?_)
      | (with_reducible refine and_side ?_ ?_)
      | (with_reducible refine Br.no (by omega) ?_)
      | ((with_reducible apply blkAt_intro) ; (focus (first
      | ((repeat (first
      | assumption
      | exact get_new
      | exact get_set get_new
      | apply get_old
      | (apply get_set_ne; (focus (first | omega | (simp only [newB_length, List.length_set, List.length_append, List.length_singleton, List.length_nil]; omega))))
      )); done)
      )) ; (focus (first | rfl | assumption | omega)) ; (try dsimp only))
      | (with_reducible refine IaW.of ?_)
      | (with_reducible refine lenR_rsl ?_)
      ))
      )
    all_goals (conv => whnf)
    all_goals (try dsimp only)
    refine RWrite_call (vb t 2) (vb t 3) (vb t 4) (vb t 5) (vb t 1) (vb t 6) fun H3 y hg3 hy hn3 => ?_
    rw [eE]
    rw [eW] at hy
    replace b0 := hg3.2 0 _ (by (first
          | ((repeat (first
          | assumption
          | apply get_old
          | (apply get_set_ne; (focus (first | omega | (simp only [newB_length, List.length_set, List.length_append, List.length_singleton, List.length_nil]; omega))))
          )); done)
          )) (by simp)
    have bx := hg3.2 H2.length _ (by (first
          | ((repeat (first
          | exact get_set get_new
          )); done)
          )) (by simp)
    have lH := (List.getElem?_eq_some_iff.1 bx).1
    have hbw := hg3.2 id _ (by (first
          | ((repeat (first
          | assumption
          | apply get_old
          | (apply get_set_ne; (focus (first | omega | (simp only [newB_length, List.length_set, List.length_append, List.length_singleton, List.length_nil]; omega))))
          )); done)
          )) (by simp)
    have lid3 := (List.getElem?_eq_some_iff.1 hbw).1
    cases hv : supV t
    · have h0 : hdOk t = false := by rw [eO, hv]; rfl
      have hz := hno h0
      rw [h0, hz, hz, hz, hz, hz, hz]
      simp only [Bool.false_eq_true, if_false]
      repeat' (first
        | ((with_reducible refine Side.intro ?_) <;> (first
        | exact Nat.le_of_ble_eq_true rfl
        | (simp only [List.append_nil, List.nil_append, List.map_nil]; first | exact List.nodup_nil | exact nodup_bid1 _ | exact nodup_bid2 (by assumption))
        | ((first | refine fresh_tup ?_ | skip); (repeat (first |  exact FreshA.sl _ _ FreshA_bs | exact FreshA.sl _ _ FreshA_is | exact FreshA.nils | exact FreshA.nilp | exact FreshA.int _ _ | exact FreshA.bool _ | exact FreshA.str _ | exact fresh_nil | refine fresh_cons ?_ ?_ | with_reducible refine fresh_aggR ?_ | with_reducible refine fresh_agg ?_ | with_reducible exact fresh_nilA | with_reducible refine fresh_consA ?_ ?_)); done)
        | exact rfl
        ))
        | ((conv => whnf) <;> (first
        | (with_reducible refine and_same ?_)
        | (with_reducible refine and_side ?_ ?_)
        | (with_reducible refine Br.yes (by omega) ?_)
        | ((with_reducible apply blkAt_intro) ; (focus (first
        | ((repeat (first
        | assumption
        | exact get_set (by assumption)
        )); done)
        )) ; (focus (first | rfl | assumption | omega)) ; (try dsimp only))
        | (with_reducible refine NOut.lit ?_)
        ))
        )
      all_goals (conv => whnf)
      all_goals (try dsimp only)
      all_goals exact ret_same rfl
    · simp only [if_true]
      by_cases he : wrV t = t
      · have h0 : hdOk t = true := by rw [eO, hv, decide_eq_true he]; rfl
        have hz := hyes h0
        rw [h0, hz, hz, hz, hz, hz, hz]
        rw [he] at hy
        have hss : ¬ t ≠ t := fun e => e rfl
        repeat' (first
          | ((with_reducible refine Side.intro ?_) <;> (first
          | omega
          | exact Nat.le_of_ble_eq_true rfl
          | (simp only [List.append_nil, List.nil_append, List.map_nil]; first | exact List.nodup_nil | exact nodup_bid1 _ | exact nodup_bid2 (by assumption))
          | ((first | refine fresh_tup ?_ | skip); (repeat (first |  exact FreshA.sl _ _ FreshA_bs | exact FreshA.sl _ _ FreshA_is | exact FreshA.nils | exact FreshA.nilp | exact FreshA.int _ _ | exact FreshA.bool _ | exact FreshA.str _ | exact fresh_nil | refine fresh_cons ?_ ?_ | with_reducible refine fresh_aggR ?_ | with_reducible refine fresh_agg ?_ | with_reducible exact fresh_nilA | with_reducible refine fresh_consA ?_ ?_)); done)
          | exact rfl
          ))
          | ((conv => whnf) <;> (first
          | (with_reducible refine and_same ?_)
          | (with_reducible refine and_side ?_ ?_)
          | (with_reducible refine Br.no (by omega) ?_)
          | ((with_reducible apply blkAt_intro) ; (focus (first
          | ((repeat (first
          | assumption
          | exact get_set (by assumption)
          )); done)
          )) ; (focus (first | rfl | assumption | omega)) ; (try dsimp only))
          | (with_reducible refine rowsR_own (by assumption) ?_)
          | (with_reducible refine IaW.of ?_)
          | (with_reducible refine NOut.lit ?_)
          | (with_reducible refine rowsR_sl ?_)
          | (with_reducible refine bytesR_intro (by first | rfl | (simp only [bs_take, bs_drop, bs_append]; rfl)) ?_)
          ))
          )
        all_goals (conv => whnf)
        all_goals (try dsimp only)
        all_goals first
          | exact ret_same rfl
          | exact ok_set_sh hid
          | exact ok_set_co hid
      · have h0 : hdOk t = false := by rw [eO, hv, decide_eq_false he]; rfl
        have hz := hno h0
        rw [h0, hz, hz, hz, hz, hz, hz]
        repeat' (first
          | ((with_reducible refine Side.intro ?_) <;> (first
          | exact Nat.le_of_ble_eq_true rfl
          | (simp only [List.append_nil, List.nil_append, List.map_nil]; first | exact List.nodup_nil | exact nodup_bid1 _ | exact nodup_bid2 (by assumption))
          | ((first | refine fresh_tup ?_ | skip); (repeat (first |  exact FreshA.sl _ _ FreshA_bs | exact FreshA.sl _ _ FreshA_is | exact FreshA.nils | exact FreshA.nilp | exact FreshA.int _ _ | exact FreshA.bool _ | exact FreshA.str _ | exact fresh_nil | refine fresh_cons ?_ ?_ | with_reducible refine fresh_aggR ?_ | with_reducible refine fresh_agg ?_ | with_reducible exact fresh_nilA | with_reducible refine fresh_consA ?_ ?_)); done)
          | exact rfl
          ))
          | ((conv => whnf) <;> (first
          | (with_reducible refine and_same ?_)
          | (with_reducible refine and_side ?_ ?_)
          | (with_reducible refine Br.yes (by omega) ?_)
          | (with_reducible refine Br.no (by omega) ?_)
          | ((with_reducible apply blkAt_intro) ; (focus (first
          | ((repeat (first
          | assumption
          | exact get_set (by assumption)
          )); done)
          )) ; (focus (first | rfl | assumption | omega)) ; (try dsimp only))
          | (with_reducible refine rowsR_own (by assumption) ?_)
          | (with_reducible refine NOut.lit ?_)
          | (with_reducible refine rowsR_sl ?_)
          | (with_reducible refine bytesR_intro (by first | rfl | (simp only [bs_take, bs_drop, bs_append]; rfl)) ?_)
          ))
          )
        all_goals (conv => whnf)
        all_goals (try dsimp only)
        all_goals exact ret_same rfl
  · have h0 : hdOk t = false := by
      cases hh : hdOk t
      · rfl
      · exact absurd (hd_four hh) hq
    have hz := hd_no h0
    rw [h0, hz, hz, hz, hz, hz, hz]
    cases q2 : allOk t
    · repeat' (first
        | ((with_reducible refine Side.intro ?_) <;> (first
        | exact Nat.le_of_ble_eq_true rfl
        | (simp only [List.append_nil, List.nil_append, List.map_nil]; first | exact List.nodup_nil | exact nodup_bid1 _ | exact nodup_bid2 (by assumption))
        | ((first | refine fresh_tup ?_ | skip); (repeat (first |  exact FreshA.sl _ _ FreshA_bs | exact FreshA.sl _ _ FreshA_is | exact FreshA.nils | exact FreshA.nilp | exact FreshA.int _ _ | exact FreshA.bool _ | exact FreshA.str _ | exact fresh_nil | refine fresh_cons ?_ ?_ | with_reducible refine fresh_aggR ?_ | with_reducible refine fresh_agg ?_ | with_reducible exact fresh_nilA | with_reducible refine fresh_consA ?_ ?_)); done)
        | exact rfl
        ))
        | ((conv => whnf) <;> (first
        | (with_reducible refine and_same ?_)
        | (with_reducible refine and_side ?_ ?_)
        | ((with_reducible apply blkAt_intro) ; (focus (first
        | ((repeat (first
        | assumption
        | exact get_set (by assumption)
        )); done)
        )) ; (focus (first | rfl | assumption | omega)) ; (try dsimp only))
        | (with_reducible refine NOut.lit ?_)
        ))
        )
      all_goals (conv => whnf)
      all_goals (try dsimp only)
      all_goals exact ret_same rfl
    · have q3 : (allR t).length ≠ 8 := fun e => hq ⟨q2, e⟩
      repeat' (first
        | ((with_reducible refine Side.intro ?_) <;> (first
        | exact Nat.le_of_ble_eq_true rfl
        | (simp only [List.append_nil, List.nil_append, List.map_nil]; first | exact List.nodup_nil | exact nodup_bid1 _ | exact nodup_bid2 (by assumption))
        | ((first | refine fresh_tup ?_ | skip); (repeat (first |  exact FreshA.sl _ _ FreshA_bs | exact FreshA.sl _ _ FreshA_is | exact FreshA.nils | exact FreshA.nilp | exact FreshA.int _ _ | exact FreshA.bool _ | exact FreshA.str _ | exact fresh_nil | refine fresh_cons ?_ ?_ | with_reducible refine fresh_aggR ?_ | with_reducible refine fresh_agg ?_ | with_reducible exact fresh_nilA | with_reducible refine fresh_consA ?_ ?_)); done)
        | exact rfl
        ))
        | ((conv => whnf) <;> (first
        | (with_reducible refine and_same ?_)
        | (with_reducible refine and_side ?_ ?_)
        | (with_reducible refine Br.yes (by omega) ?_)
        | ((with_reducible apply blkAt_intro) ; (focus (first
        | ((repeat (first
        | assumption
        | exact get_set (by assumption)
        )); done)
        )) ; (focus (first | rfl | assumption | omega)) ; (try dsimp only))
        | (with_reducible refine lenR_own (by assumption) ?_)
        | (with_reducible refine NOut.lit ?_)
        ))
        )
      all_goals (conv => whnf)
      all_goals (try dsimp only)
      all_goals exact ret_same rfl
theorem RRead_call (t : List UInt8) (hs : t.length ≤ 4611686018) {σ : AH} {x : AV} (hx : Looks σ x (.sl 1 (bs t) false)) {Q : AV → AH → Prop} (h : ∀ σ', Gr σ σ' none → Q (.tup [hdA t, .int .i64 (hdI t 1), .int .i64 (hdI t 6), .bool (hdOk t)]) σ') : CallS Try.prog F.joistref17_Read [x] σ Q :=
  call_four (RRead_ok t hs) (.cons hx .nil) rfl rfl rfl rfl h
end Go.Proofs.Ytjjmcpnbaahkgaa
