import Derived.Test.YtjbfdhnfdehdeaaPwalkp
import Derived.Test.YtjbfdhnfdehdeaaPnest
namespace Go.Proofs.Ytjbfdhnfdehdeaa
open Go Go.Proofs.Ytjbfdhnfdehdeaa.V
set_option maxRecDepth 20000
attribute [local irreducible] CallS AOK AOKn ALoop Side Ref.ok
theorem Equal_ok (s t : List UInt8) (hs : s.length ≤ 4611686018) (ht : t.length ≤ 4611686018) : AOKn Try.prog F.bytes_Equal [.sl 1 (bs s) false, .sl 1 (bs t) false] fun y => y = .bool (decide (s = t)) := by
  refine AOKn.by_steps mixed fc_bytes_Equal_ok (by simp [fc_bytes_Equal]) ?_
  repeat' (first
    | ((with_reducible refine Side.intro ?_) <;> (first
    | (simp only [List.append_nil, List.nil_append, List.map_nil]; first | exact List.nodup_nil | exact nodup_bid1 _ | exact nodup_bid2 (by assumption))
    | ((first | refine fresh_tup ?_ | skip); (repeat (first | exact fresh_sp _ | exact fresh_bk _ | exact fresh_datT _ |  exact FreshA.sl _ _ FreshA_bs | exact FreshA.sl _ _ FreshA_is | exact FreshA.nils | exact FreshA.nilp | exact FreshA.int _ _ | exact FreshA.bool _ | exact FreshA.str _ | exact fresh_nil | refine fresh_cons ?_ ?_ | with_reducible refine fresh_aggR ?_ | with_reducible refine fresh_agg ?_ | with_reducible exact fresh_nilA | with_reducible refine fresh_consA ?_ ?_)); done)
    ))
    | ((conv => whnf) <;> (first
    | (with_reducible refine and_side ?_ ?_)
    | (with_reducible refine Br.mk (fun _ => ?_) (fun _ => ?_))
    | (with_reducible refine NOut.lit ?_)
    | (with_reducible refine rowsR_sl ?_)
    | ((with_reducible apply bytesR_intro) ; (focus (first | rfl | (simp only [bs_take, bs_drop, bs_append]; rfl))))
    ))
    )
  all_goals (conv => whnf)
  all_goals (try dsimp only)
  · exact ret_bool (decide_eq_true ‹_›).symm
  · exact ret_bool (decide_eq_false ‹_›).symm
theorem Equal_call (s t : List UInt8) (hs : s.length ≤ 4611686018) (ht : t.length ≤ 4611686018) {σ : AH} {x y : AV} (hx : Looks σ x (.sl 1 (bs s) false)) (hy : Looks σ y (.sl 1 (bs t) false)) {Q : AV → AH → Prop} (h : ∀ σ', Gr σ σ' none → Q (.bool (decide (s = t))) σ') : CallS Try.prog F.bytes_Equal [x, y] σ Q :=
  call_one (Equal_ok s t hs ht) (.cons hx (.cons hy .nil)) rfl h
theorem SEqual_ok (a b : List Int) (ha : a.length ≤ 4611686018427) (hb : b.length ≤ 4611686018427) : AOKn Try.prog F.slices_Equal [.sl 1 (is a) false, .sl 1 (is b) false] fun y => y = .bool (decide (a = b)) := by
  have hm := is_length a
  have hn := is_length b
  refine AOKn.by_steps mixed fc_slices_Equal_ok (by simp [fc_slices_Equal]) ?_
  by_cases hl : a.length = b.length
  · repeat' (first
      | ((conv => whnf) <;> (first
      | (with_reducible refine and_same ?_)
      | ((with_reducible apply Br.no) ; (focus omega))
      | (with_reducible refine lenR_sl ?_)
      ))
      )
    all_goals (conv => whnf)
    all_goals (try dsimp only)
    refine loop_at (α := Nat) (fun i => [(13, .int .i64 i)]) (fun _ => []) (fun i => i ≤ a.length ∧ ∀ j, j < i → a[j]? = b[j]?) (fun i => a.length - i) 0 ⟨Nat.zero_le _, fun j h => by omega⟩ rfl rfl ?_
    rintro i ⟨hi, hok⟩
    by_cases hlt : i < a.length
    · obtain ⟨u, hu, hu'⟩ := getN hlt
      obtain ⟨v, hv, hv'⟩ := getN (l := b) (k := i) (by omega)
      by_cases he : u = v
      · repeat' (first
          | ((with_reducible refine Side.intro ?_) <;> (first
          | omega
          ))
          | ((conv => whnf) <;> (first
          | (with_reducible refine and_same ?_)
          | ((with_reducible apply Br.yes) ; (focus omega))
          | ((with_reducible apply Br.no) ; (focus omega))
          | ((with_reducible apply nthR_is1) ; (focus assumption))
          | (with_reducible refine ia_sl ?_ ?_)
          ))
          )
        all_goals (conv => whnf)
        all_goals (try dsimp only)
        all_goals first
          | omega
          | skip
        refine ⟨i + 1, rfl, rfl, ⟨by omega, fun j hj => ?_⟩, by omega⟩
        by_cases e : j = i
        · rw [e, hu', hv', he]
        · exact hok j (by omega)
      · rw [decide_eq_false (fun e => he (by rw [e] at hu'; rw [hu'] at hv'; exact Option.some.inj hv'))]
        repeat' (first
          | ((with_reducible refine Side.intro ?_) <;> (first
          | omega
          | (simp only [List.append_nil, List.nil_append, List.map_nil]; first | exact List.nodup_nil | exact nodup_bid1 _ | exact nodup_bid2 (by assumption))
          | ((first | refine fresh_tup ?_ | skip); (repeat (first | exact fresh_sp _ | exact fresh_bk _ | exact fresh_datT _ |  exact FreshA.sl _ _ FreshA_bs | exact FreshA.sl _ _ FreshA_is | exact FreshA.nils | exact FreshA.nilp | exact FreshA.int _ _ | exact FreshA.bool _ | exact FreshA.str _ | exact fresh_nil | refine fresh_cons ?_ ?_ | with_reducible refine fresh_aggR ?_ | with_reducible refine fresh_agg ?_ | with_reducible exact fresh_nilA | with_reducible refine fresh_consA ?_ ?_)); done)
          ))
          | ((conv => whnf) <;> (first
          | (with_reducible refine and_same ?_)
          | (with_reducible refine and_side ?_ ?_)
          | ((with_reducible apply Br.yes) ; (focus omega))
          | ((with_reducible apply nthR_is1) ; (focus assumption))
          | (with_reducible refine ia_sl ?_ ?_)
          | (with_reducible refine NOut.lit ?_)
          ))
          )
        all_goals (conv => whnf)
        all_goals (try dsimp only)
        exact ret_bool rfl
    · rw [decide_eq_true (List.ext_getElem? fun j => by
        by_cases hj : j < i
        · exact hok j hj
        · rw [List.getElem?_eq_none (by omega), List.getElem?_eq_none (by omega)])]
      repeat' (first
        | ((with_reducible refine Side.intro ?_) <;> (first
        | (simp only [List.append_nil, List.nil_append, List.map_nil]; first | exact List.nodup_nil | exact nodup_bid1 _ | exact nodup_bid2 (by assumption))
        | ((first | refine fresh_tup ?_ | skip); (repeat (first | exact fresh_sp _ | exact fresh_bk _ | exact fresh_datT _ |  exact FreshA.sl _ _ FreshA_bs | exact FreshA.sl _ _ FreshA_is | exact FreshA.nils | exact FreshA.nilp | exact FreshA.int _ _ | exact FreshA.bool _ | exact FreshA.str _ | exact fresh_nil | refine fresh_cons ?_ ?_ | with_reducible refine fresh_aggR ?_ | with_reducible refine fresh_agg ?_ | with_reducible exact fresh_nilA | with_reducible refine fresh_consA ?_ ?_)); done)
        ))
        | ((conv => whnf) <;> (first
        | (with_reducible refine and_same ?_)
        | (with_reducible refine and_side ?_ ?_)
        | ((with_reducible apply Br.no) ; (focus omega))
        | (with_reducible refine NOut.lit ?_)
        ))
        )
      all_goals (conv => whnf)
      all_goals (try dsimp only)
      exact ret_bool rfl
  · rw [decide_eq_false (fun e => hl (by rw [e]))]
    repeat' (first
      | ((with_reducible refine Side.intro ?_) <;> (first
      | (simp only [List.append_nil, List.nil_append, List.map_nil]; first | exact List.nodup_nil | exact nodup_bid1 _ | exact nodup_bid2 (by assumption))
      | ((first | refine fresh_tup ?_ | skip); (repeat (first | exact fresh_sp _ | exact fresh_bk _ | exact fresh_datT _ |  exact FreshA.sl _ _ FreshA_bs | exact FreshA.sl _ _ FreshA_is | exact FreshA.nils | exact FreshA.nilp | exact FreshA.int _ _ | exact FreshA.bool _ | exact FreshA.str _ | exact fresh_nil | refine fresh_cons ?_ ?_ | with_reducible refine fresh_aggR ?_ | with_reducible refine fresh_agg ?_ | with_reducible exact fresh_nilA | with_reducible refine fresh_consA ?_ ?_)); done)
      ))
      | ((conv => whnf) <;> (first
      | (with_reducible refine and_same ?_)
      | (with_reducible refine and_side ?_ ?_)
      | ((with_reducible apply Br.yes) ; (focus omega))
      | (with_reducible refine NOut.lit ?_)
      | (with_reducible refine lenR_sl ?_)
      ))
      )
    all_goals (conv => whnf)
    all_goals (try dsimp only)
    exact ret_bool rfl
theorem SEqual_call (a b : List Int) (ha : a.length ≤ 4611686018) (hb : b.length ≤ 4611686018) {σ : AH} {x y : AV} (hx : Looks σ x (.sl 1 (is a) false)) (hy : Looks σ y (.sl 1 (is b) false)) {Q : AV → AH → Prop} (h : ∀ σ', Gr σ σ' none → Q (.bool (decide (a = b))) σ') : CallS Try.prog F.slices_Equal [x, y] σ Q :=
  call_one (SEqual_ok a b (by omega) (by omega)) (.cons hx (.cons hy .nil)) rfl h
theorem Get_call (s : List UInt8) (i : Int) (hs : s.length ≤ 4611686018427) {σ : AH} {x : AV} (hx : Looks σ x (.sl 1 (bs s) false)) {Q : AV → AH → Prop} (h : ∀ σ', Gr σ σ' none → Q (.tup [.int .i64 (getV s i : Nat), .bool (getOk s i)]) σ') : CallS Try.prog F.words_Get [x, .int .i64 i] σ Q :=
  call_two (words_Get_ok s i hs) (.cons hx (.cons (.int _ _ _) .nil)) rfl rfl h
theorem RGet_call (s : List UInt8) (i : Int) (hs : s.length ≤ 4611686018427) {σ : AH} {x : AV} (hx : Looks σ x (.sl 1 (bs s) false)) {Q : AV → AH → Prop} (h : ∀ σ', Gr σ σ' none → Q (.tup [.int .i64 (getV s i : Nat), .bool (getOk s i)]) σ') : CallS Try.prog F.joistref01_Get [x, .int .i64 i] σ Q :=
  call_two (ref_Get_ok s i hs) (.cons hx (.cons (.int _ _ _) .nil)) rfl rfl h
theorem getV_bd (s : List UInt8) (i : Int) : getV s i < 4611686018427387904 := by
  unfold getV
  split
  · rename_i h
    simp only [getOk, Bool.and_eq_true, inR, decide_eq_true_eq] at h
    exact val_top _ 7 (by rw [wd_length (by omega)]) (by simpa [okW] using h.2)
  · omega
theorem disj_keep {x y : AV} (h : x.bid = none ∨ x.bid ≠ y.bid) : y.bid = none ∨ x.bid ≠ y.bid := by
  rcases h with h | h
  · cases hy : y.bid with
    | none => exact .inl rfl
    | some a => right; rw [h]; simp
  · exact .inr h
theorem Looks.nilsp (σ : AH) : Looks σ .nils (.sl 2 (Go.Proofs.Ytjbfdhnfdehdeaa.sp []) false) := .mk (u := .nils) rfl (.nil _ _)
theorem Looks.isv (σ : AH) (s : List Int) (fr : Bool) : Looks σ (.sl 1 (V.is s) fr) (.sl 1 (V.is s) false) := by
  refine .same ?_
  simp [derefV, derefC, AV.flat, untag, untagLL_is]
theorem rG_nil (fr to : Int) : rG fr to [] = bG fr to := by simp [rG, sOk]
/-- What tags.Read leaves, its data in blocks of their own. -/
def TrH (fr to : Int) (b : List UInt8) (hs : List Int) (x : AV) (τ : AH) : Prop := ∃ u d xs, x = .tup [u, d, .bool (trOk fr to b hs)] ∧
  Own τ 3 u (bk (trU fr to b hs)) ∧ NestS τ d xs ∧ Sep τ xs (trD fr to b hs) ∧ (u.bid = none ∨ u.bid ≠ d.bid) ∧ Off u xs ∧ Off d xs
theorem TrH.no {fr to : Int} {b : List UInt8} {hs : List Int} (h : trOk fr to b hs = false) (τ : AH) : TrH fr to b hs (.tup [.nils, .nils, .bool false]) τ := by
  obtain ⟨r1, r2⟩ := tr_no h
  exact ⟨.nils, .nils, [], by rw [h], by rw [r1]; exact Own.nil _ _, NestR.nil _ _, by rw [r2]; exact Sep.nil _, .inl rfl, fun y hy => by simp at hy, fun y hy => by simp at hy⟩
theorem tr_bd {fr to : Int} {b : List UInt8} (h0 : 0 ≤ fr) (ht : to ≤ 2048) : (trW fr to b).1.length ≤ 2048 ∧ (trW fr to b).2.1.length = (trW fr to b).1.length ∧ ∀ d, d ∈ (trW fr to b).2.1 → d.length ≤ b.length := by
  obtain ⟨h1, h2, h3⟩ := wkA_bd (fr := fr) (to := to) (b := b) _ fr rfl
  exact ⟨by unfold trW; omega, h2, h3⟩
theorem bk_one (u : Int × Int × Int) : bk [u] = [[.int .i64 u.1, .int .i64 u.2.1, .int .i64 u.2.2]] := rfl
theorem dta_length {b : List UInt8} {fr to at' s : Int} (hb : (b.length : Int) = (to - fr) * 8) (h0 : fr ≤ at') (h1 : 4 ≤ s) (h2 : s ≤ to - at') : (dta b fr at' s).length = (8 * (s - 2)).toNat := by
  unfold dta cut8
  rw [List.length_take, List.length_drop]
  unfold off
  omega
set_option maxHeartbeats 4000000 in
theorem TRead_h (fr to : Int) (b : List UInt8) (hs : List Int) (hb : b.length ≤ 4611686018) (hhs : hs.length ≤ 4611686018) : CallS Try.prog F.tags_Read [.int .i64 fr, .int .i64 to, .sl 1 (bs b) false, .sl 1 (is hs) false] [] (TrH fr to b hs) := by
  have hbn := bs_length b
  refine call_of_body mixed fc_tags_Read_ok (by simp [fc_tags_Read]) ?_
  skip
  all_goals (conv => whnf)
  all_goals (try dsimp only)
  refine gaps_Right_call fr to [] (by simp) (Looks.nilsp _) fun H1 hg1 => ?_
  rw [rG_nil]
  cases hB : bG fr to
  · have h0 : trOk fr to b hs = false := by rw [trOk, hB]; rfl
    skip
    all_goals (conv => whnf)
    all_goals (try dsimp only)
    exact TrH.no h0 _
  · obtain ⟨b1, b2, b3, b4, b5⟩ := bG_iff.1 hB
    by_cases hlen : (b.length : Int) = (to - fr) * 8
    · obtain ⟨w1, w2, w3⟩ := tr_bd (b := b) b1 b3
      have hwd : ∀ d, d ∈ (trW fr to b).2.1 → d.length ≤ 4611686018 := fun d hd => by have := w3 d hd; omega
      have eO : trOk fr to b hs = (rT fr to (trW fr to b).1 (trW fr to b).2.1 && (decide (twR fr to (trW fr to b).1 (trW fr to b).2.1 = b) && decide (twH fr to (trW fr to b).1 (trW fr to b).2.1 = hs))) := by rw [trOk, hB, decide_eq_true hlen, Bool.true_and, Bool.true_and]
      repeat' (first
        | ((conv => whnf) <;> (first
        | (with_reducible refine and_same ?_)
        | ((with_reducible apply Br.yes) ; (focus omega))
        | ((with_reducible apply Br.no) ; (focus omega))
        | (with_reducible refine lenR_sl ?_)
        ))
        )
      all_goals (conv => whnf)
      all_goals (try dsimp only)
      refine loop_at (α := Int × AH × AV × AV × List AV × List (Int × Int × Int) × List (List UInt8)) (fun a => [(11, a.2.2.1), (12, a.2.2.2.1), (13, .int .i64 a.1)]) (fun a => a.2.1) (fun a => fr ≤ a.1 ∧ a.1 ≤ to ∧ a.2.2.2.2.2.1 ++ (wkA fr to b a.1).1 = (trW fr to b).1 ∧ a.2.2.2.2.2.2 ++ (wkA fr to b a.1).2.1 = (trW fr to b).2.1 ∧ Own a.2.1 3 a.2.2.1 (bk a.2.2.2.2.2.1) ∧ NestS a.2.1 a.2.2.2.1 a.2.2.2.2.1 ∧ Sep a.2.1 a.2.2.2.2.1 a.2.2.2.2.2.2 ∧ (a.2.2.1.bid = none ∨ a.2.2.1.bid ≠ a.2.2.2.1.bid) ∧ Off a.2.2.1 a.2.2.2.2.1 ∧ Off a.2.2.2.1 a.2.2.2.2.1) (fun a => (to - a.1).toNat) (fr, H1, .nils, .nils, [], [], []) ⟨Int.le_refl _, b2, rfl, rfl, Own.nil _ _, NestR.nil _ _, Sep.nil _, .inl rfl, fun y hy => by simp at hy, fun y hy => by simp at hy⟩ rfl rfl ?_
      rintro ⟨at', σ, ua, da, xs, aU, aD⟩ ⟨ha0, ha1, heU, heD, hua, hda, hsp, hud, hux, hdx⟩
      dsimp only at ha0 ha1 heU heD hua hda hsp hud hux hdx ⊢
      by_cases hlt : at' < to
      · have hgv := getV_bd b (at' - fr)
        have htg : ((getV b (at' - fr) : Nat) : Int) = tagAt b fr at' := rfl
        have htg0 : 0 ≤ tagAt b fr at' := by rw [← htg]; omega
        have htg1 : tagAt b fr at' < 4611686018427387904 := by rw [← htg]; omega
        repeat' (first
          | ((conv => whnf) <;> (first
          | (with_reducible refine and_same ?_)
          | ((with_reducible apply Br.yes) ; (focus omega))
          ))
          )
        all_goals (conv => whnf)
        all_goals (try dsimp only)
        refine Get_call b (at' - fr) (by omega) (.bs _ _ _) fun σ0 hg0 => ?_
        rw [htg]
        replace hua := hua.keepN hg0
        replace hda := NestR.keepN hg0 hda
        replace hsp := hsp.keepN hg0
        clear hg0
        generalize σ0 = σ at *
        cases hbad : tagBad b fr to at'
        · have ht := tag_ok hbad
          have hlU := congrArg List.length heU
          rw [List.length_append] at hlU
          have hlD := congrArg List.length heD
          rw [List.length_append] at hlD
          have hbkl := bk_length aU
          have hxl := hsp.len
          by_cases hx : tagAt b fr at' % 64 > 0
          · have hw := wkA_used hlt hbad hx
            have hdl := dta_length (b := b) (s := tagAt b fr at' / 64) hlen ha0 ht.1 ht.2
            have hcut : List.drop ((at' - fr + 1) * 8).toNat (List.take ((at' - fr + 1) * 8 + (tagAt b fr at' / 64 - 2) * 8).toNat (bs b)) = bs (dta b fr at' (tagAt b fr at' / 64)) := by
              rw [bs_take, bs_drop, List.drop_take]
              unfold dta cut8
              rw [show ((at' - fr + 1) * 8).toNat = off fr (at' + 1) from by unfold off; omega, show ((at' - fr + 1) * 8 + (tagAt b fr at' / 64 - 2) * 8).toNat - off fr (at' + 1) = (8 * (tagAt b fr at' / 64 - 2)).toNat from by unfold off; omega]
            generalize hd8 : dta b fr at' (tagAt b fr at' / 64) = d8 at *
            generalize hT : tagAt b fr at' = T at *
            repeat' (first
              | ((with_reducible refine Side.intro ?_) <;> (first
              | omega
              | exact Nat.le_of_ble_eq_true rfl
              | exact rfl
              ))
              | ((conv => whnf) <;> (first
              | (with_reducible refine and_same ?_)
              | (with_reducible refine and_side ?_ ?_)
              | ((with_reducible apply Br.yes) ; (focus omega))
              | ((with_reducible apply Br.no) ; (focus omega))
              | ((with_reducible apply blkAt_intro) ; (focus (first
              | ((repeat (first
              | exact get_new
              )); done)
              )) ; (focus (first | rfl | assumption | omega)) ; (try dsimp only))
              | (with_reducible refine AppC.frz ?_)
              | (with_reducible refine rowsR_rsl ?_)
              ))
              )
            all_goals (conv => whnf)
            all_goals (try dsimp only)
            refine appendR_own (rows := bk aU) (hua.keepN (by (repeat (first
                  | exact Gr.refl _ _
                  | refine Gr.addN ?_ _
                  )))) (by simp only [List.length_take, List.length_drop, List.length_set, List.length_replicate]; omega) ?_
            intro ua' σ1 hua' hg1' hb1'
            repeat' (first
              | ((with_reducible refine Side.intro ?_) <;> (first
              | omega
              ))
              | ((conv => whnf) <;> (first
              | (with_reducible refine and_same ?_)
              | (with_reducible refine and_side ?_ ?_)
              | ((with_reducible apply Br.yes) ; (focus omega))
              | (with_reducible refine SliceW.of ?_)
              ))
              )
            all_goals (conv => whnf)
            all_goals (try dsimp only)
            rw [hcut]
            refine call_sl (bytes_Clone_ok d8 (by omega)) (.cons (.bs _ _ _) .nil) fun σ3 x hg3' hx' hxn => ?_
            have l01 := hg1'.1
            have l13 := hg3'.1
            simp only [newB_length, List.length_set] at l01
            have hda1 : NestS σ1 da xs := NestR.keep hg1' (NestR.keepN (by (repeat (first
                  | exact Gr.refl _ _
                  | refine Gr.addN ?_ _
                  ))) hda) (disj_keep hud)
            have hsp1 : Sep σ1 xs aD := Sep.keep (Sep.keepN (by (repeat (first
                  | exact Gr.refl _ _
                  | refine Gr.addN ?_ _
                  ))) hsp) hg1' hux.keepd
            have D1 : ua'.bid = none ∨ ua'.bid ≠ da.bid := by
              rcases hb1' with q | q
              · rw [q]; exact hud
              · right
                rw [q]
                intro e
                have := hda.lt e.symm
                simp only [newB_length, List.length_set] at this
                omega
            have A1 : Off ua' xs := by
              rcases hb1' with q | q
              · exact hux.same q
              · exact Off.new hsp q (by simp only [newB_length, List.length_set]; omega)
            have hda3 := NestR.keepN hg3' hda1
            have hsp3 := Sep.keepN hg3' hsp1
            have hua3 := hua'.keepN hg3'
            have hxl' : ∀ id, x.bid = some id → id < σ3.length := fun id hi => hx'.lt hi
            have hxs : ∀ y, y ∈ xs → y.bid = none ∨ y.bid ≠ x.bid := hsp1.apart hxn
            have hxd : x.bid = none ∨ x.bid ≠ da.bid := hda1.apart hxn
            have hxc : x.bid = none ∨ x.bid ≠ ua'.bid := by
              cases hb : x.bid with
              | none => exact .inl rfl
              | some a =>
                right
                intro e
                have p1 := hxn a hb
                have p2 := hua'.lt e.symm
                omega
            obtain ⟨ox1, ox2, ox3⟩ := hx'.one
            have raw : UseRaw := ⟨⟩
            repeat' (first
              | ((with_reducible refine Side.intro ?_) <;> (first
              | omega
              | exact Nat.le_of_ble_eq_true rfl
              ))
              | ((conv => whnf) <;> (first
              | (with_reducible refine and_same ?_)
              | (with_reducible refine and_side ?_ ?_)
              | ((with_reducible apply blkAt_intro) ; (focus (first
              | ((repeat (first
              | exact get_new
              )); done)
              )) ; (focus (first | rfl | assumption | omega)) ; (try dsimp only))
              | ((with_reducible apply AppC.raw) ; (focus assumption))
              | (with_reducible refine rowsR_rsl ?_)
              ))
              )
            all_goals (conv => whnf)
            all_goals (try dsimp only)
            rw [ox1]
            refine NestS.append (xs := xs) (x := x) (NestR.keepN (Gr.append _ _) hda3) (by omega) (fun id hi => by have := hxl' id hi; simp only [newB_length]; omega) hxd ?_
            intro da' σ4 hda' hg4' hb4'
            have hx4 : Own σ4 1 x (bs d8) := Own.keep hg4' (hx'.keepN (Gr.append _ _)) (disj_keep (disj_symm hxd))
            have hua4 : Own σ4 3 ua' _ := Own.keep hg4' (hua3.keepN (Gr.append _ _)) (disj_keep (disj_symm D1))
            have hsp4 : Sep σ4 xs aD := Sep.keep (Sep.keepN (Gr.append _ _) hsp3) hg4' hdx.keepd
            have D2 : ua'.bid = none ∨ ua'.bid ≠ da'.bid := by
              rcases hb4' with q | q
              · rw [q]; exact D1
              · right
                rw [q]
                intro e
                have := hua3.lt e
                simp only [newB_length] at this
                omega
            have A2 : Off da' (xs ++ [x]) := by
              rcases hb4' with q | q
              · exact (hdx.snoc hxd).same q
              · refine Off.snoc (Off.new hsp3 q (by simp only [newB_length]; omega)) ?_
                rw [q]
                cases hb : x.bid with
                | none => exact .inl rfl
                | some a =>
                  right
                  intro e
                  cases e
                  have := hxl' _ hb
                  simp only [newB_length] at this
                  omega
            repeat' (first
              | ((conv => whnf) <;> (first
              | (with_reducible refine and_same ?_)
              | ((with_reducible apply Br.yes) ; (focus omega))
              ))
              )
            all_goals (conv => whnf)
            all_goals (try dsimp only)
            refine ⟨(at' + T / 64, σ4, ua', da', xs ++ [x], aU ++ [(at', T / 64, T % 64 - 1)], aD ++ [d8]), rfl, rfl, ⟨by dsimp only; omega, by dsimp only; omega, ?_, ?_, ?_, hda', Sep.snoc hsp4 hx4 hxs, D2, A1.snoc hxc, A2⟩, by dsimp only; omega⟩
            · dsimp only
              rw [hw] at heU
              rw [List.append_assoc]; exact heU
            · dsimp only
              rw [hw] at heD
              rw [List.append_assoc]; exact heD
            · dsimp only
              rw [bk_append]; exact hua4
          · have hw := wkA_free hlt hbad hx
            generalize hT : tagAt b fr at' = T at *
            repeat' (first
              | ((with_reducible refine Side.intro ?_) <;> (first
              | omega
              ))
              | ((conv => whnf) <;> (first
              | (with_reducible refine and_same ?_)
              | (with_reducible refine and_side ?_ ?_)
              | ((with_reducible apply Br.yes) ; (focus omega))
              | ((with_reducible apply Br.no) ; (focus omega))
              ))
              )
            all_goals (conv => whnf)
            all_goals (try dsimp only)
            refine ⟨(at' + T / 64, σ, ua, da, xs, aU, aD), rfl, rfl, ⟨by dsimp only; omega, by dsimp only; omega, by dsimp only; rw [← hw]; exact heU, by dsimp only; rw [← hw]; exact heD, hua, hda, hsp, hud, hux, hdx⟩, by dsimp only; omega⟩
        · have hw := wkA_bad hlt hbad
          rw [hw, List.append_nil] at heU heD
          subst heU
          subst heD
          simp only [tagBad, decide_eq_true_eq] at hbad
          generalize hT : tagAt b fr at' = T at *
          repeat' (first
            | ((with_reducible refine Side.intro ?_) <;> (first
            | omega
            ))
            | ((conv => whnf) <;> (first
            | (with_reducible refine and_same ?_)
            | (with_reducible refine and_side ?_ ?_)
            | ((with_reducible apply Br.yes) ; (focus omega))
            | (with_reducible refine Br.mk (fun _ => ?_) (fun _ => ?_))
            ))
            )
          all_goals (conv => whnf)
          all_goals (try dsimp only)
          all_goals
            refine TWrite_call fr to (trW fr to b).1 (trW fr to b).2.1 (by omega) (by omega) hwd (Looks.ownbk hua) (looks_xs hda hsp) fun H6 y h6 hg6 hy hh6 hyn hhn hyh => ?_
            cases hw : rT fr to (trW fr to b).1 (trW fr to b).2.1
            · have h0 : trOk fr to b hs = false := by rw [eO, hw]; rfl
              rw [show twE fr to (trW fr to b).1 (trW fr to b).2.1 = 1 from by rw [twE, hw]; rfl]
              repeat' (first
                | ((conv => whnf) <;> (first
                | (with_reducible refine and_same ?_)
                | ((with_reducible apply Br.yes) ; (focus omega))
                ))
                )
              all_goals (conv => whnf)
              all_goals (try dsimp only)
              exact TrH.no h0 _
            · rw [show twE fr to (trW fr to b).1 (trW fr to b).2.1 = 0 from by rw [twE, hw]; rfl]
              have hwl : (twR fr to (trW fr to b).1 (trW fr to b).2.1).length ≤ 4611686018 := by
                have := (rT_tg hw).imgl
                rw [twR, hw, if_pos rfl, this]; unfold off; omega
              have hhl : (twH fr to (trW fr to b).1 (trW fr to b).2.1).length ≤ 4611686018 := by rw [twH, hw, if_pos rfl]; simp [hdsL]
              repeat' (first
                | ((conv => whnf) <;> (first
                | (with_reducible refine and_same ?_)
                | ((with_reducible apply Br.no) ; (focus omega))
                ))
                )
              all_goals (conv => whnf)
              all_goals (try dsimp only)
              refine Equal_call _ b hwl hb (Looks.ownbs hy) (.bs _ _ _) fun H7 hg7 => ?_
              replace hh6 := hh6.keepN hg7
              by_cases he : twR fr to (trW fr to b).1 (trW fr to b).2.1 = b
              · rw [decide_eq_true he]
                skip
                all_goals (conv => whnf)
                all_goals (try dsimp only)
                refine SEqual_call _ hs hhl hhs (Looks.ownis hh6) (Looks.isv _ _ _) fun H8 hg8 => ?_
                have g8 : Gr σ H8 none := (hg6.trans hg7).trans hg8
                by_cases hhe : twH fr to (trW fr to b).1 (trW fr to b).2.1 = hs
                · have h0 : trOk fr to b hs = true := by rw [eO, hw, decide_eq_true he, decide_eq_true hhe]; rfl
                  obtain ⟨r1, r2⟩ := tr_yes h0
                  rw [decide_eq_true hhe]
                  skip
                  all_goals (conv => whnf)
                  all_goals (try dsimp only)
                  exact ⟨ua, da, xs, by rw [h0]; rfl, by rw [r1]; exact hua.keepN g8, NestR.keepN g8 hda, by rw [r2]; exact hsp.keepN g8, hud, hux, hdx⟩
                · have h0 : trOk fr to b hs = false := by rw [eO, hw, decide_eq_true he, decide_eq_false hhe]; rfl
                  rw [decide_eq_false hhe]
                  skip
                  all_goals (conv => whnf)
                  all_goals (try dsimp only)
                  exact TrH.no h0 _
              · have h0 : trOk fr to b hs = false := by rw [eO, hw, decide_eq_false he]; rfl
                rw [decide_eq_false he]
                skip
                all_goals (conv => whnf)
                all_goals (try dsimp only)
                exact TrH.no h0 _
      · have hw := wkA_end (b := b) (fr := fr) (to := to) (at' := at') (by omega)
        rw [hw, List.append_nil] at heU heD
        subst heU
        subst heD
        repeat' (first
          | ((conv => whnf) <;> (first
          | (with_reducible refine and_same ?_)
          | ((with_reducible apply Br.no) ; (focus omega))
          ))
          )
        all_goals (conv => whnf)
        all_goals (try dsimp only)
        refine TWrite_call fr to (trW fr to b).1 (trW fr to b).2.1 (by omega) (by omega) hwd (Looks.ownbk hua) (looks_xs hda hsp) fun H6 y h6 hg6 hy hh6 hyn hhn hyh => ?_
        cases hw : rT fr to (trW fr to b).1 (trW fr to b).2.1
        · have h0 : trOk fr to b hs = false := by rw [eO, hw]; rfl
          rw [show twE fr to (trW fr to b).1 (trW fr to b).2.1 = 1 from by rw [twE, hw]; rfl]
          repeat' (first
            | ((conv => whnf) <;> (first
            | (with_reducible refine and_same ?_)
            | ((with_reducible apply Br.yes) ; (focus omega))
            ))
            )
          all_goals (conv => whnf)
          all_goals (try dsimp only)
          exact TrH.no h0 _
        · rw [show twE fr to (trW fr to b).1 (trW fr to b).2.1 = 0 from by rw [twE, hw]; rfl]
          have hwl : (twR fr to (trW fr to b).1 (trW fr to b).2.1).length ≤ 4611686018 := by
            have := (rT_tg hw).imgl
            rw [twR, hw, if_pos rfl, this]; unfold off; omega
          have hhl : (twH fr to (trW fr to b).1 (trW fr to b).2.1).length ≤ 4611686018 := by rw [twH, hw, if_pos rfl]; simp [hdsL]
          repeat' (first
            | ((conv => whnf) <;> (first
            | (with_reducible refine and_same ?_)
            | ((with_reducible apply Br.no) ; (focus omega))
            ))
            )
          all_goals (conv => whnf)
          all_goals (try dsimp only)
          refine Equal_call _ b hwl hb (Looks.ownbs hy) (.bs _ _ _) fun H7 hg7 => ?_
          replace hh6 := hh6.keepN hg7
          by_cases he : twR fr to (trW fr to b).1 (trW fr to b).2.1 = b
          · rw [decide_eq_true he]
            skip
            all_goals (conv => whnf)
            all_goals (try dsimp only)
            refine SEqual_call _ hs hhl hhs (Looks.ownis hh6) (Looks.isv _ _ _) fun H8 hg8 => ?_
            have g8 : Gr σ H8 none := (hg6.trans hg7).trans hg8
            by_cases hhe : twH fr to (trW fr to b).1 (trW fr to b).2.1 = hs
            · have h0 : trOk fr to b hs = true := by rw [eO, hw, decide_eq_true he, decide_eq_true hhe]; rfl
              obtain ⟨r1, r2⟩ := tr_yes h0
              rw [decide_eq_true hhe]
              skip
              all_goals (conv => whnf)
              all_goals (try dsimp only)
              exact ⟨ua, da, xs, by rw [h0]; rfl, by rw [r1]; exact hua.keepN g8, NestR.keepN g8 hda, by rw [r2]; exact hsp.keepN g8, hud, hux, hdx⟩
            · have h0 : trOk fr to b hs = false := by rw [eO, hw, decide_eq_true he, decide_eq_false hhe]; rfl
              rw [decide_eq_false hhe]
              skip
              all_goals (conv => whnf)
              all_goals (try dsimp only)
              exact TrH.no h0 _
          · have h0 : trOk fr to b hs = false := by rw [eO, hw, decide_eq_false he]; rfl
            rw [decide_eq_false he]
            skip
            all_goals (conv => whnf)
            all_goals (try dsimp only)
            exact TrH.no h0 _
    · have h0 : trOk fr to b hs = false := by rw [trOk, decide_eq_false hlen, Bool.false_and, Bool.and_false]
      repeat' (first
        | ((conv => whnf) <;> (first
        | (with_reducible refine and_same ?_)
        | ((with_reducible apply Br.yes) ; (focus omega))
        | (with_reducible refine lenR_sl ?_)
        ))
        )
      all_goals (conv => whnf)
      all_goals (try dsimp only)
      exact TrH.no h0 _
theorem TRead_call (fr to : Int) (b : List UInt8) (hs : List Int) (hb : b.length ≤ 4611686018) (hhs : hs.length ≤ 4611686018) {σ : AH} {x z : AV} (hx : Looks σ x (.sl 1 (bs b) false)) (hz : Looks σ z (.sl 1 (is hs) false)) {Q : AV → AH → Prop}
    (h : ∀ σ' u d xs, Gr σ σ' none → Own σ' 3 u (bk (trU fr to b hs)) → NestS σ' d xs → Sep σ' xs (trD fr to b hs) → (∀ id, u.bid = some id → σ.length ≤ id) → (∀ id, d.bid = some id → σ.length ≤ id) → (∀ y, y ∈ xs → ∀ id, y.bid = some id → σ.length ≤ id) → (u.bid = none ∨ u.bid ≠ d.bid) → Off u xs → Off d xs →
      Q (.tup [u, d, .bool (trOk fr to b hs)]) σ') : CallS Try.prog F.tags_Read [.int .i64 fr, .int .i64 to, x, z] σ Q := by
  refine CallS.lift (vs := [.int .i64 fr, .int .i64 to, .sl 1 (bs b) false, .sl 1 (is hs) false]) (.cons (.int _ _ _) (.cons (.int _ _ _) (.cons hx (.cons hz .nil)))) ((TRead_h fr to b hs hb hhs).mono ?_)
  rintro _ τ ⟨u, d, xs, rfl, hu, hd, hsp, h1, h2, h3⟩
  refine ⟨?_, fun τ' hh => ?_⟩
  · intro y hy
    simp only [List.mem_cons, List.not_mem_nil, or_false] at hy
    rcases hy with rfl | rfl | rfl
    · exact hu.fs
    · exact hd.fs
    · exact .fresh (.bool _)
  · refine h (σ ++ τ') (shA σ.length u) (shA σ.length d) (xs.map (shA σ.length)) (Gr.append _ _) (hu.handed hh fun r hr y hy => ?_) (NestS.handed hh hd hsp.fs) (Sep.handed hh hsp) (shA_new _ _) (shA_new _ _) ?_ (shA_ne h1) (h2.sh _) (h3.sh _)
    · simp only [bk, List.mem_map] at hr
      obtain ⟨v, _, rfl⟩ := hr
      simp only [List.mem_cons, List.not_mem_nil, or_false] at hy
      rcases hy with rfl | rfl | rfl <;> exact .int _ _
    · intro y hy
      obtain ⟨z, _, rfl⟩ := List.mem_map.1 hy
      exact shA_new _ z
end Go.Proofs.Ytjbfdhnfdehdeaa
