import Derived.Test.YtjbfdhnfdehdeaaPlaws11b
namespace Go.Proofs.Ytjbfdhnfdehdeaa
open Go Go.Proofs.Ytjbfdhnfdehdeaa.V
set_option maxRecDepth 20000
attribute [local irreducible] CallS AOK AOKn ALoop Side Ref.ok
theorem get_of {b : List UInt8} {i : Int} {n : Nat} {r : List UInt8} (hi : 0 ≤ i) (hn : n < 4611686018427387904) (h : b.drop (8 * i.toNat) = le 8 n ++ r) : getV b i = n ∧ getOk b i = true := by
  have hl := congrArg List.length h
  rw [List.length_drop, List.length_append, le_length] at hl
  have hin : inR b i = true := by
    simp only [inR, decide_eq_true_eq]
    omega
  have hw : wd b i.toNat = le 8 n := by
    unfold wd
    rw [Nat.mul_comm, h, List.take_left' (le_length 8 n)]
  have hok : getOk b i = true := by rw [getOk, hin, hw, okW_le n hn]; rfl
  exact ⟨by rw [getV, if_pos hok, hw, val_le8 n hn], hok⟩
theorem tl_cons (G : List (Int × Int)) (to at' : Int) (j : Nat) (u : Int × Int × Int) (U : List (Int × Int × Int)) (d : List UInt8) (D : List (List UInt8)) : tl G to at' j (u :: U) (d :: D) = if at' < u.1 then fb G j (at', u.1 - at') :: ub u d :: tl G to (u.1 + u.2.1) (j + 1) U D else ub u d :: tl G to (u.1 + u.2.1) j U D := by rw [tl]
theorem tl_nil (G : List (Int × Int)) (to at' : Int) (j : Nat) (D : List (List UInt8)) : tl G to at' j [] D = if at' < to then [fb G j (at', to - at')] else [] := by cases D <;> rfl
/-- A block's two tags. -/
theorem pc_tags {b : List UInt8} {i s x : Int} {d r : List UInt8} (hi : 0 ≤ i) (hs : 2 ≤ s) (hs2 : s ≤ 2048) (hx : 0 ≤ x) (hx2 : x < 64) (hd : (d.length : Int) ≤ (s - 2) * 8) (h : b.drop (8 * i.toNat) = pc s x d ++ r) :
    ((getV b i : Nat) : Int) = 64 * s + x ∧ getOk b i = true ∧ ((getV b (i + s - 1) : Nat) : Int) = 64 * s + x ∧ getOk b (i + s - 1) = true ∧ b.drop (8 * (i + s).toNat) = r := by
  have hn : (64 * s + x).toNat < 4611686018427387904 := by omega
  have hl := pc_length (x := x) hs hd
  have h8 := le_length 8 (64 * s + x).toNat
  obtain ⟨a1, a2⟩ := get_of hi hn (r := pcT s x d ++ r) (by rw [h, pc_head, List.append_assoc])
  have hsp : pc s x d = (le 8 (64 * s + x).toNat ++ d ++ List.replicate (8 * (s - 2).toNat - d.length) 0) ++ le 8 (64 * s + x).toNat := rfl
  have h2 : b.drop (8 * i.toNat) = (le 8 (64 * s + x).toNat ++ d ++ List.replicate (8 * (s - 2).toNat - d.length) 0) ++ (le 8 (64 * s + x).toNat ++ r) := by
    rw [h, hsp, List.append_assoc]
  have h3 := drop_of_app h2
  have hlen : (le 8 (64 * s + x).toNat ++ d ++ List.replicate (8 * (s - 2).toNat - d.length) (0 : UInt8)).length = 8 * (s - 1).toNat := by
    simp only [List.length_append, List.length_replicate, h8]; omega
  rw [hlen, show 8 * i.toNat + 8 * (s - 1).toNat = 8 * (i + s - 1).toNat from by omega] at h3
  obtain ⟨b1, b2⟩ := get_of (i := i + s - 1) (by omega) hn h3
  have h4 := drop_of_app h
  rw [hl, show 8 * i.toNat + 8 * s.toNat = 8 * (i + s).toNat from by omega] at h4
  exact ⟨by rw [a1]; omega, a2, by rw [b1]; omega, b2, h4⟩
set_option maxHeartbeats 4000000 in
theorem TagsWalks_ok (fr to : Int) (U : List (Int × Int × Int)) (D : List (List UInt8)) (hU : U.length ≤ 4611686018) (hD : D.length ≤ 4611686018) (hd : ∀ d, d ∈ D → d.length ≤ 4611686018) : AOKn Try.prog F.joistlaw11_TagsWalks [.int .i64 fr, .int .i64 to, .sl 3 (bk U) false, .sl 1 (dat D) false] fun y => y = .bool true := by
  have hln := bk_length U
  have hDn := dat_length D
  refine AOKn.by_steps mixed fc_joistlaw11_TagsWalks_ok (by simp [fc_joistlaw11_TagsWalks]) ?_
  skip
  all_goals (conv => whnf)
  all_goals (try dsimp only)
  refine small_call fun H1 hg1 => ?_
  skip
  all_goals (conv => whnf)
  all_goals (try dsimp only)
  refine few_call D hD hd (Looks.dat _ _ _) fun H2 hg2 => ?_
  cases hf : fewB D
  · repeat' (first
      | ((with_reducible refine Side.intro ?_) <;> (first
      | (simp only [List.append_nil, List.nil_append, List.map_nil]; first | exact List.nodup_nil | exact nodup_bid1 _ | exact nodup_bid2 (by assumption))
      | ((first | refine fresh_tup ?_ | skip); (repeat (first |  exact FreshA.sl _ _ FreshA_bs | exact FreshA.sl _ _ FreshA_is | exact FreshA.nils | exact FreshA.nilp | exact FreshA.int _ _ | exact FreshA.bool _ | exact FreshA.str _ | exact fresh_nil | refine fresh_cons ?_ ?_ | with_reducible refine fresh_aggR ?_ | with_reducible refine fresh_agg ?_ | with_reducible exact fresh_nilA | with_reducible refine fresh_consA ?_ ?_)); done)
      ))
      | ((conv => whnf) <;> (first
      | (with_reducible refine and_side ?_ ?_)
      | (with_reducible refine NOut.lit ?_)
      ))
      )
    all_goals (conv => whnf)
    all_goals (try dsimp only)
    exact ret_bool rfl
  · by_cases h60 : U.length ≤ 60
    · have hf2 : D.length ≤ 60 := by
        simp only [fewB, Bool.and_eq_true, decide_eq_true_eq] at hf
        exact hf.2
      repeat' (first
        | ((conv => whnf) <;> (first
        | (with_reducible refine and_same ?_)
        | ((with_reducible apply Br.no) ; (focus omega))
        | (with_reducible refine lenR_sl ?_)
        ))
        )
      all_goals (conv => whnf)
      all_goals (try dsimp only)
      refine TWrite_call fr to U D (by omega) (by omega) hd (Looks.bk _ _ _) (Looks.dat _ _ _) fun H3 y h hg3 hy hh hyn hhn hyh => ?_
      cases hr : rT fr to U D
      · rw [show twE fr to U D = 1 from by rw [twE, hr]; rfl]
        repeat' (first
          | ((with_reducible refine Side.intro ?_) <;> (first
          | (simp only [List.append_nil, List.nil_append, List.map_nil]; first | exact List.nodup_nil | exact nodup_bid1 _ | exact nodup_bid2 (by assumption))
          | ((first | refine fresh_tup ?_ | skip); (repeat (first |  exact FreshA.sl _ _ FreshA_bs | exact FreshA.sl _ _ FreshA_is | exact FreshA.nils | exact FreshA.nilp | exact FreshA.int _ _ | exact FreshA.bool _ | exact FreshA.str _ | exact fresh_nil | refine fresh_cons ?_ ?_ | with_reducible refine fresh_aggR ?_ | with_reducible refine fresh_agg ?_ | with_reducible exact fresh_nilA | with_reducible refine fresh_consA ?_ ?_)); done)
          ))
          | ((conv => whnf) <;> (first
          | (with_reducible refine and_same ?_)
          | (with_reducible refine and_side ?_ ?_)
          | ((with_reducible apply Br.yes) ; (focus omega))
          | (with_reducible refine NOut.lit ?_)
          ))
          )
        all_goals (conv => whnf)
        all_goals (try dsimp only)
        exact ret_bool rfl
      · rw [show twE fr to U D = 0 from by rw [twE, hr]; rfl]
        have T := rT_tg hr
        rw [show twR fr to U D = img fr to U D from by rw [twR, hr, if_pos rfl]] at hy
        have hil := T.imgl
        have htl := T.len
        have hud := T.ud
        obtain ⟨t1, t2, t3, t4, t5, t6, t7, t8⟩ := id T
        have himg : (img fr to U D).drop (8 * (0 : Int).toNat) = (tl (gp to fr U) to fr 0 U D).flatten := rfl
        generalize img fr to U D = P at *
        generalize gp to fr U = G at *
        have hPl : P.length ≤ 4611686018427 := by rw [hil]; unfold off; omega
        repeat' (first
          | ((conv => whnf) <;> (first
          | (with_reducible refine and_same ?_)
          | ((with_reducible apply Br.no) ; (focus omega))
          ))
          )
        all_goals (conv => whnf)
        all_goals (try dsimp only)
        refine loop_at (α := Nat × Int × Bool × Nat × AH) (fun a => [(14, .int .i64 a.2.1), (15, .int .i64 a.1), (16, .bool a.2.2.1)]) (fun a => a.2.2.2.2) (fun a => a.1 ≤ U.length ∧ 0 ≤ a.2.1 ∧ a.2.1 ≤ to - fr ∧ (fr + a.2.1) % 4 = 0 ∧ sOk to (fr + a.2.1) (spo (U.drop a.1)) = true ∧ P.drop (8 * a.2.1.toNat) = (tl G to (fr + a.2.1) a.2.2.2.1 (U.drop a.1) (D.drop a.1)).flatten ∧ Own a.2.2.2.2 1 y (bs P) ∧ (a.2.2.1 = true → (∀ u, U[a.1]? = some u → u.1 = fr + a.2.1) ∧ (a.1 = U.length → fr + a.2.1 = to))) (fun a => (to - fr - a.2.1).toNat) (0, 0, false, 0, H3) ⟨Nat.zero_le _, Int.le_refl _, by dsimp only; omega, by dsimp only; omega, by dsimp only; rw [Int.add_zero, List.drop_zero]; exact t6, by dsimp only; rw [himg, Int.add_zero, List.drop_zero, List.drop_zero], hy, fun q => by cases q⟩ rfl rfl ?_
        clear hy himg
        rintro ⟨m, a, f, j, σ⟩ ⟨hm, ha0, ha1, hmod, hok, hdr, hy, hfr⟩
        dsimp only at hm ha0 ha1 hmod hok hdr hy hfr ⊢
        by_cases hlt : a < to - fr
        · have key : (∃ e : Int, fr + a < e ∧ e ≤ to ∧ e % 4 = 0 ∧ (∀ u, U[m]? = some u → u.1 = e) ∧ (m = U.length → e = to) ∧ sOk to e (spo (U.drop m)) = true ∧ P.drop (8 * a.toNat) = fb G j (fr + a, e - (fr + a)) ++ (tl G to e (j + 1) (U.drop m) (D.drop m)).flatten) ∨
              (∃ u d, U[m]? = some u ∧ D[m]? = some d ∧ u.1 = fr + a ∧ 4 ≤ u.2.1 ∧ u.1 + u.2.1 ≤ to ∧ u.2.1 % 4 = 0 ∧ sOk to (u.1 + u.2.1) (spo (U.drop (m + 1))) = true ∧ P.drop (8 * a.toNat) = ub u d ++ (tl G to (u.1 + u.2.1) j (U.drop (m + 1)) (D.drop (m + 1))).flatten) := by
            by_cases hml : m < U.length
            · have hml2 : m < D.length := by omega
              have e1 := List.drop_eq_getElem_cons hml
              have e2 := List.drop_eq_getElem_cons hml2
              have g1 := List.getElem?_eq_getElem hml
              have g2 := List.getElem?_eq_getElem hml2
              generalize U[m] = u at *
              generalize D[m] = d at *
              rw [e1] at hok
              rw [e1, e2] at hdr
              obtain ⟨q1, q2, q3, q4, q5, q6, q7⟩ := sOk_cons hok
              rw [tl_cons] at hdr
              by_cases hg : fr + a < u.1
              · left
                rw [if_pos hg, List.flatten_cons] at hdr
                refine ⟨u.1, hg, q2, q5, fun v hv => by rw [g1] at hv; cases hv; rfl, fun e => by omega, ?_, ?_⟩
                · rw [e1]
                  simp only [spo, List.map_cons, sOk, Bool.and_eq_true, sC, decide_eq_true_eq]
                  exact ⟨⟨Int.le_refl _, q2, q3, by omega, q5, q6⟩, q7⟩
                · rw [hdr, e1, e2, tl_cons, if_neg (by omega)]
              · right
                rw [if_neg hg, List.flatten_cons] at hdr
                exact ⟨u, d, g1, g2, by omega, q3, q4, q6, q7, hdr⟩
            · left
              have e1 : U.drop m = [] := List.drop_of_length_le (by omega)
              have e2 : D.drop m = [] := List.drop_of_length_le (by omega)
              rw [e1, e2] at hdr
              refine ⟨to, by omega, Int.le_refl _, t5, fun u hu => (by rw [List.getElem?_eq_none (by omega)] at hu; cases hu), fun _ => rfl, by rw [e1]; rfl, ?_⟩
              rw [hdr, e1, e2, tl_nil, tl_nil, if_pos (by omega), if_neg (by omega)]
              simp
          rcases key with ⟨e, k1, k2, k3, k4, k5, k6, k7⟩ | ⟨u, d, k1, k2, k3, k4, k5, k6, k7, k8⟩
          · have hp := pc_tags (b := P) (i := a) (s := e - (fr + a)) (x := 0) (d := cat [nxt G j, prv G j]) ha0 (by omega) (by omega) (by omega) (by omega) (by rw [cat_length]; simp; omega) k7
            have hff : f = false := by
              cases f
              · rfl
              · obtain ⟨f1, f2⟩ := hfr rfl
                exfalso
                by_cases hml : m < U.length
                · obtain ⟨u, hu, hu'⟩ := getN hml
                  have := f1 u hu'
                  have := k4 u hu'
                  omega
                · have := f2 (by omega)
                  have := k5 (by omega)
                  omega
            subst hff
            obtain ⟨N, hN⟩ : ∃ N, N = 64 * (e - (fr + a)) + 0 := ⟨_, rfl⟩
            have hN1 : N / 64 = e - (fr + a) := by omega
            rw [← hN, ← hN1] at hp
            obtain ⟨p1, p2, p3, p4, p5⟩ := hp
            repeat' (first
              | ((conv => whnf) <;> (first
              | (with_reducible refine and_same ?_)
              | ((with_reducible apply Br.yes) ; (focus omega))
              ))
              )
            all_goals (conv => whnf)
            all_goals (try dsimp only)
            refine Get_call P a (by omega) (Looks.ownbs hy) fun H4 hg4 => ?_
            rw [p1, p2]
            replace hy := hy.keepN hg4
            repeat' (first
              | ((with_reducible refine Side.intro ?_) <;> (first
              | omega
              ))
              | ((conv => whnf) <;> (first
              | (with_reducible refine and_same ?_)
              | (with_reducible refine and_side ?_ ?_)
              | ((with_reducible apply Br.yes) ; (focus omega))
              | ((with_reducible apply Br.no) ; (focus omega))
              ))
              )
            all_goals (conv => whnf)
            all_goals (try dsimp only)
            refine Get_call P (a + N / 64 - 1) (by omega) (Looks.ownbs hy) fun H5 hg5 => ?_
            rw [p3, p4]
            replace hy := hy.keepN hg5
            have hat : fr + (a + N / 64) = e := by omega
            repeat' (first
              | ((with_reducible refine Side.intro ?_) <;> (first
              | omega
              ))
              | ((conv => whnf) <;> (first
              | (with_reducible refine and_same ?_)
              | (with_reducible refine and_side ?_ ?_)
              | ((with_reducible apply Br.yes) ; (focus omega))
              | ((with_reducible apply Br.no) ; (focus omega))
              ))
              )
            all_goals (conv => whnf)
            all_goals (try dsimp only)
            all_goals first
              | omega
              | skip
            refine ⟨(m, a + N / 64, true, j + 1, H5), rfl, rfl, ⟨by dsimp only; omega, by dsimp only; omega, by dsimp only; omega, by dsimp only; omega, by dsimp only; rw [hat]; exact k6, by dsimp only; rw [p5, hat], hy, fun _ => ⟨fun u hu => by dsimp only at hu ⊢; rw [hat]; exact k4 u hu, fun q => by dsimp only at q ⊢; rw [hat]; exact k5 q⟩⟩, by dsimp only; omega⟩
          · have hudd := hud m u d k1 k2
            have hp := pc_tags (b := P) (i := a) (s := u.2.1) (x := u.2.2 + 1) (d := d) ha0 (by omega) (by omega) (by omega) (by omega) hudd.1 k8
            obtain ⟨N, hN⟩ : ∃ N, N = 64 * u.2.1 + (u.2.2 + 1) := ⟨_, rfl⟩
            have hN1 : N / 64 = u.2.1 := by omega
            have hN2 : N % 64 = u.2.2 + 1 := by omega
            rw [← hN, ← hN1] at hp
            obtain ⟨p1, p2, p3, p4, p5⟩ := hp
            have hml := (List.getElem?_eq_some_iff.1 k1).1
            have k1' : U[((m : Nat) : Int).toNat]? = some u := by rw [Int.toNat_natCast]; exact k1
            repeat' (first
              | ((conv => whnf) <;> (first
              | (with_reducible refine and_same ?_)
              | ((with_reducible apply Br.yes) ; (focus omega))
              ))
              )
            all_goals (conv => whnf)
            all_goals (try dsimp only)
            refine Get_call P a (by omega) (Looks.ownbs hy) fun H4 hg4 => ?_
            rw [p1, p2]
            replace hy := hy.keepN hg4
            repeat' (first
              | ((with_reducible refine Side.intro ?_) <;> (first
              | omega
              ))
              | ((conv => whnf) <;> (first
              | (with_reducible refine and_same ?_)
              | (with_reducible refine and_side ?_ ?_)
              | ((with_reducible apply Br.yes) ; (focus omega))
              | ((with_reducible apply Br.no) ; (focus omega))
              ))
              )
            all_goals (conv => whnf)
            all_goals (try dsimp only)
            refine Get_call P (a + N / 64 - 1) (by omega) (Looks.ownbs hy) fun H5 hg5 => ?_
            rw [p3, p4]
            replace hy := hy.keepN hg5
            have hat : fr + (a + N / 64) = u.1 + u.2.1 := by omega
            repeat' (first
              | ((with_reducible refine Side.intro ?_) <;> (first
              | omega
              ))
              | ((conv => whnf) <;> (first
              | (with_reducible refine and_same ?_)
              | (with_reducible refine and_side ?_ ?_)
              | ((with_reducible apply Br.yes) ; (focus omega))
              | ((with_reducible apply Br.no) ; (focus omega))
              | ((with_reducible apply nthR_bk) ; (focus assumption))
              | (with_reducible refine ia_sl ?_ ?_)
              | (with_reducible refine lenR_sl ?_)
              ))
              )
            all_goals (conv => whnf)
            all_goals (try dsimp only)
            all_goals first
              | omega
              | skip
            refine ⟨(m + 1, a + N / 64, false, j, H5), rfl, rfl, ⟨by dsimp only; omega, by dsimp only; omega, by dsimp only; omega, by dsimp only; omega, by dsimp only; rw [hat]; exact k7, by dsimp only; rw [p5, hat, hN1], hy, fun q => by cases q⟩, by dsimp only; omega⟩
        · have ha : a = to - fr := by omega
          have hmm : m = U.length := by
            by_cases hml : m < U.length
            · exfalso
              have e1 := List.drop_eq_getElem_cons hml
              rw [e1] at hok
              obtain ⟨q1, q2, q3, q4, _⟩ := sOk_cons hok
              omega
            · omega
          repeat' (first
            | ((with_reducible refine Side.intro ?_) <;> (first
            | (simp only [List.append_nil, List.nil_append, List.map_nil]; first | exact List.nodup_nil | exact nodup_bid1 _ | exact nodup_bid2 (by assumption))
            | ((first | refine fresh_tup ?_ | skip); (repeat (first |  exact FreshA.sl _ _ FreshA_bs | exact FreshA.sl _ _ FreshA_is | exact FreshA.nils | exact FreshA.nilp | exact FreshA.int _ _ | exact FreshA.bool _ | exact FreshA.str _ | exact fresh_nil | refine fresh_cons ?_ ?_ | with_reducible refine fresh_aggR ?_ | with_reducible refine fresh_agg ?_ | with_reducible exact fresh_nilA | with_reducible refine fresh_consA ?_ ?_)); done)
            ))
            | ((conv => whnf) <;> (first
            | (with_reducible refine and_same ?_)
            | (with_reducible refine and_side ?_ ?_)
            | ((with_reducible apply Br.yes) ; (focus omega))
            | ((with_reducible apply Br.no) ; (focus omega))
            | (with_reducible refine NOut.lit ?_)
            | (with_reducible refine lenR_sl ?_)
            ))
            )
          all_goals (conv => whnf)
          all_goals (try dsimp only)
          all_goals first
            | omega
            | exact ret_bool rfl
    · repeat' (first
        | ((with_reducible refine Side.intro ?_) <;> (first
        | (simp only [List.append_nil, List.nil_append, List.map_nil]; first | exact List.nodup_nil | exact nodup_bid1 _ | exact nodup_bid2 (by assumption))
        | ((first | refine fresh_tup ?_ | skip); (repeat (first |  exact FreshA.sl _ _ FreshA_bs | exact FreshA.sl _ _ FreshA_is | exact FreshA.nils | exact FreshA.nilp | exact FreshA.int _ _ | exact FreshA.bool _ | exact FreshA.str _ | exact fresh_nil | refine fresh_cons ?_ ?_ | with_reducible refine fresh_aggR ?_ | with_reducible refine fresh_agg ?_ | with_reducible exact fresh_nilA | with_reducible refine fresh_consA ?_ ?_)); done)
        ))
        | ((conv => whnf) <;> (first
        | (with_reducible refine and_same ?_)
        | (with_reducible refine and_side ?_ ?_)
        | ((with_reducible apply Br.yes) ; (focus omega))
        | (with_reducible refine NOut.lit ?_)
        | (with_reducible refine lenR_sl ?_)
        ))
        )
      all_goals (conv => whnf)
      all_goals (try dsimp only)
      all_goals first
        | omega
        | exact ret_bool rfl
end Go.Proofs.Ytjbfdhnfdehdeaa
