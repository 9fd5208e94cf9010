import Derived.Test.YtjbfdhnfdehdeaaPtags5
import Derived.Test.YtjbfdhnfdehdeaaPref01
namespace Go.Proofs.Ytjbfdhnfdehdeaa
open Go Go.Proofs.Ytjbfdhnfdehdeaa.V
set_option maxRecDepth 20000
attribute [local irreducible] CallS AOK AOKn ALoop Side Ref.ok
/-- What is written lies within o .. o + n. -/
def Win (p q : List UInt8) (o n : Nat) : Prop := q.length = p.length ∧ ∀ j, (j < o ∨ o + n ≤ j) → q[j]? = p[j]?
theorem Win.refl (p : List UInt8) (o n : Nat) : Win p p o n := ⟨rfl, fun _ _ => rfl⟩
theorem Win.trans {p q r : List UInt8} {o n : Nat} (h : Win p q o n) (k : Win q r o n) : Win p r o n := ⟨k.1.trans h.1, fun j hj => (k.2 j hj).trans (h.2 j hj)⟩
theorem Win.pt {p e : List UInt8} {o n b : Nat} (h : o + n ≤ p.length) (hb : b + e.length ≤ n) : Win p (pt p (o + b) e) o n :=
  ⟨pt_length (by omega), fun j hj => by rw [pt_get (by omega), if_neg (by omega)]⟩
theorem At.win {p q d : List UInt8} {a o n : Nat} (h : At p a d) (w : Win p q o n) (hd : a + d.length ≤ o ∨ o + n ≤ a) : At q a d :=
  .of (by rw [w.1]; exact h.1) fun j hj => by rw [w.2 _ (by omega)]; exact h.get hj
theorem pc_pts2 {t d : List UInt8} (ht : t.length = 8) {n : Nat} (h : 16 + d.length ≤ n) : pt (pt (pt (List.replicate n 0) 0 t) (n - 8) t) 8 d = t ++ d ++ List.replicate (n - 16 - d.length) 0 ++ t := by
  have e1 : pt (List.replicate n 0) 0 t = t ++ List.replicate (n - 8) 0 := by
    simp only [pt, List.take_zero, List.nil_append, List.drop_replicate]
    rw [show n - (0 + t.length) = n - 8 from by omega]
  have e2 : pt (t ++ List.replicate (n - 8) 0) (n - 8) t = t ++ List.replicate (n - 16) 0 ++ t := by
    simp only [pt]
    rw [List.drop_of_length_le (by simp; omega), List.append_nil, List.take_append, List.take_of_length_le (by omega), List.take_replicate]
    congr 3
    omega
  rw [e1, e2]
  have e3 : (t ++ List.replicate (n - 16) (0 : UInt8) ++ t).take 8 = t := by
    rw [List.append_assoc, List.take_append_of_le_length (by omega), List.take_of_length_le (by omega)]
  have e4 : (t ++ List.replicate (n - 16) (0 : UInt8) ++ t).drop (8 + d.length) = List.replicate (n - 16 - d.length) 0 ++ t := by
    rw [List.append_assoc, List.drop_append, List.drop_of_length_le (by omega), List.nil_append, show 8 + d.length - t.length = d.length from by omega, List.drop_append_of_le_length (by simp; omega), List.drop_replicate]
  simp only [pt]
  rw [e3, e4]
  simp [List.append_assoc]
theorem pc_pts4 {t x y : List UInt8} (ht : t.length = 8) (hx : x.length = 8) (hy : y.length = 8) {n : Nat} (h : 32 ≤ n) : pt (pt (pt (pt (List.replicate n 0) 0 t) 8 x) 16 y) (n - 8) t = t ++ (x ++ y) ++ List.replicate (n - 32) 0 ++ t := by
  have e1 : pt (List.replicate n 0) 0 t = t ++ List.replicate (n - 8) 0 := by
    simp only [pt, List.take_zero, List.nil_append, List.drop_replicate]
    rw [show n - (0 + t.length) = n - 8 from by omega]
  have e2 : pt (t ++ List.replicate (n - 8) 0) 8 x = t ++ x ++ List.replicate (n - 16) 0 := by
    simp only [pt]
    rw [List.take_append_of_le_length (by omega), List.take_of_length_le (by omega), List.drop_append, List.drop_of_length_le (by omega), List.nil_append, List.drop_replicate, show n - 8 - (8 + x.length - t.length) = n - 16 from by omega]
  have e3 : pt (t ++ x ++ List.replicate (n - 16) 0) 16 y = t ++ (x ++ y) ++ List.replicate (n - 24) 0 := by
    simp only [pt]
    rw [List.take_append_of_le_length (by simp; omega), List.take_of_length_le (by simp; omega), List.drop_append, List.drop_of_length_le (by simp; omega), List.nil_append, List.drop_replicate, List.append_assoc t x y, show n - 16 - (16 + y.length - (t ++ x).length) = n - 24 from by simp; omega]
  rw [e1, e2, e3]
  simp only [pt]
  rw [List.drop_of_length_le (by simp; omega), List.append_nil, List.take_append, List.take_of_length_le (by simp; omega), List.take_replicate]
  congr 3
  simp
  omega
theorem putR_pt {p : List UInt8} {a n : Int} (h : 0 ≤ a) (ha : 8 * a.toNat + 8 ≤ p.length) (hn : mayW n = true) : putR p a n = pt p (8 * a.toNat) (le 8 n.toNat) ∧ putE p a n = 0 := by
  have hin : inR p a = true := by simp only [inR, decide_eq_true_eq]; omega
  have e : putE p a n = 0 := by rw [putE, hin, hn]; rfl
  refine ⟨?_, e⟩
  rw [putR, if_pos e]
  unfold put1 pt
  rw [le_length, Nat.mul_comm]
theorem RPut_call (p : List UInt8) (a n : Int) (hs : p.length ≤ 4611686018427) (h0 : 0 ≤ a) (ha : 8 * a.toNat + 8 ≤ p.length) (hn : 0 ≤ n ∧ n ≤ 4611686018427387903) {σ : AH} {x : AV} (hx : Looks σ x (.sl 1 (bs p) false)) {Q : AV → AH → Prop} (h : ∀ σ' y, Gr σ σ' none → Own σ' 1 y (bs (pt p (8 * a.toNat) (le 8 n.toNat))) → New σ y → Q (.tup [y, .int .i64 0]) σ') : CallS Try.prog F.joistref01_Put [x, .int .i64 a, .int .i64 n] σ Q := by
  obtain ⟨e1, e2⟩ := putR_pt h0 ha (n := n) (by simp only [mayW, decide_eq_true_eq]; exact hn)
  have := ref_Put_ok p a n hs
  rw [e1, e2] at this
  exact call_sl1 this (.cons hx (.cons (.int _ _ _) (.cons (.int _ _ _) .nil))) rfl h
def hdT (G : List (Int × Int)) (i : Nat) : List Int := (List.range 7).map fun c => nxL c (G.drop i)
theorem hdT_len (G : List (Int × Int)) : hdT G G.length = List.replicate 7 0 := by simp [hdT, List.drop_length]; rfl
theorem hdT_zero (G : List (Int × Int)) : hdT G 0 = hdsL G := rfl
theorem nxL_cons (c : Nat) (g : Int × Int) (l : List (Int × Int)) : nxL c (g :: l) = if lw g.2 = c then g.1 + 1 else nxL c l := by
  unfold nxL
  rw [List.find?_cons]
  by_cases h : lw g.2 = c
  · simp [h]
  · have e : (lw g.2 == c) = false := by simpa using h
    rw [e, if_neg h]
theorem hdT_step {G : List (Int × Int)} {i : Nat} {g : Int × Int} (hg : G[i]? = some g) : hdT G i = (hdT G (i + 1)).set (lw g.2) (g.1 + 1) := by
  have hl := (List.getElem?_eq_some_iff.1 hg)
  obtain ⟨h1, h2⟩ := hl
  have hd : G.drop i = g :: G.drop (i + 1) := by rw [List.drop_eq_getElem_cons h1, h2]
  have l1 : (hdT G i).length = 7 := by simp [hdT]
  have l2 : (hdT G (i + 1)).length = 7 := by simp [hdT]
  apply List.ext_getElem?
  intro c
  by_cases hc : c < 7
  · have g1 : (hdT G i)[c]? = some (nxL c (G.drop i)) := by simp [hdT, List.getElem?_range hc]
    have g2 : (hdT G (i + 1))[c]? = some (nxL c (G.drop (i + 1))) := by simp [hdT, List.getElem?_range hc]
    rw [g1, hd, nxL_cons]
    by_cases e : lw g.2 = c
    · subst e
      rw [if_pos rfl, List.getElem?_set_self (by rw [l2]; exact hc)]
    · rw [if_neg e, List.getElem?_set_ne e, g2]
  · rw [List.getElem?_eq_none (by omega), List.getElem?_eq_none (by rw [List.length_set]; omega)]
set_option maxHeartbeats 4000000 in
theorem RWrite_ok (fr to : Int) (U : List (Int × Int × Int)) (D : List (List UInt8)) (hU : U.length ≤ 4611) (hD : D.length ≤ 4611686) (hd : ∀ d, d ∈ D → d.length ≤ 4611686018) : AOKn Try.prog F.joistref11_Write [.int .i64 fr, .int .i64 to, .sl 3 (bk U) false, .sl 1 (dat D) false] fun y => y = .tup [.sl 1 (bs (twR fr to U D)) true, .sl 1 (is (twH fr to U D)) true, .int .i64 (twE fr to U D)] := by
  have hn := bk_length U
  have hm := dat_length D
  refine AOKn.by_steps mixed fc_joistref11_Write_ok (by simp [fc_joistref11_Write]) ?_
  skip
  all_goals (conv => whnf)
  all_goals (try dsimp only)
  refine RRight_call fr to U D (by omega) hD hd (Looks.bk _ _ _) (Looks.dat _ _ _) fun H1 hg1 => ?_
  cases hr : rT fr to U D
  · rw [twR, twH, twE, hr]
    repeat' (first
      | ((with_reducible refine Side.intro ?_) <;> (first
      | (simp only [List.append_nil, List.nil_append, List.map_nil]; first | exact List.nodup_nil | exact nodup_bid1 _ | exact nodup_bid2 (by assumption))
      | ((first | refine fresh_tup ?_ | skip); (repeat (first | exact fresh_sp _ |  exact FreshA.sl _ _ FreshA_bs | exact FreshA.sl _ _ FreshA_is | exact FreshA.nils | exact FreshA.nilp | exact FreshA.int _ _ | exact FreshA.bool _ | exact FreshA.str _ | exact fresh_nil | refine fresh_cons ?_ ?_ | with_reducible refine fresh_aggR ?_ | with_reducible refine fresh_agg ?_ | with_reducible exact fresh_nilA | with_reducible refine fresh_consA ?_ ?_)); done)
      ))
      | ((conv => whnf) <;> (first
      | (with_reducible refine and_side ?_ ?_)
      | (with_reducible refine NOut.lit ?_)
      ))
      )
    all_goals (conv => whnf)
    all_goals (try dsimp only)
    exact ⟨_, .tup (.cons (.nil _ _) (.cons (.nil _ _) (.cons (.refl _) .nil))), rfl⟩
  · rw [twR, twH, twE, hr]
    have T := rT_tg hr
    have hrg : rG fr to (spo U) = true := (rT_iff.1 hr).1
    have hgl := T.glen
    have hgo := T.gok
    obtain ⟨t1, t2, t3, t4, t5, t6, t7, t8⟩ := id T
    have hoff : (off fr to : Int) = 8 * (to - fr) := by unfold off; omega
    have hz0 : ∀ a s : Int, fr ≤ a → 0 ≤ s → a + s ≤ to → At (List.replicate (8 * (to - fr)).toNat 0) (off fr a) (List.replicate (8 * s.toNat) 0) := fun a s h1 h2 h3 => by
      refine .of (by rw [List.length_replicate, List.length_replicate]; unfold off; omega) fun j hj => ?_
      rw [List.length_replicate] at hj
      rw [List.getElem?_replicate, if_pos (by unfold off; omega), List.getElem?_replicate, if_pos hj]
    repeat' (first
      | ((with_reducible refine Side.intro ?_) <;> (first
      | omega
      ))
      | ((conv => whnf) <;> (first
      | (with_reducible refine and_same ?_)
      | (with_reducible refine and_side ?_ ?_)
      | ((with_reducible apply Br.yes) ; (focus omega))
      ))
      )
    all_goals (conv => whnf)
    all_goals (try dsimp only)
    rw [bs_replicate]
    refine loop_at (α := Nat × List UInt8 × AV × AH) (fun a => [(12, a.2.2.1), (13, .int .i64 a.1)]) (fun a => a.2.2.2) (fun a => a.1 ≤ U.length ∧ Own a.2.2.2 1 a.2.2.1 (bs a.2.1) ∧ a.2.1.length = off fr to ∧ (∀ (k : Nat) u d, k < a.1 → U[k]? = some u → D[k]? = some d → At a.2.1 (off fr u.1) (ub u d)) ∧ (∀ (k : Nat) u, a.1 ≤ k → U[k]? = some u → At a.2.1 (off fr u.1) (List.replicate (8 * u.2.1.toNat) 0)) ∧ (∀ g, g ∈ gp to fr U → At a.2.1 (off fr g.1) (List.replicate (8 * g.2.toNat) 0))) (fun a => U.length - a.1) (0, List.replicate (8 * (to - fr)).toNat 0, _, _) ⟨Nat.zero_le _, ?_, ?_, fun k u d hk => by dsimp only at hk; omega, fun k u _ hu => ?_, fun g hg => ?_⟩ rfl rfl ?_
    · exact .mk' (sp := []) get_new (by rw [bs_length, List.length_replicate]) (by rw [List.append_nil]; rfl)
    · dsimp only; rw [List.length_replicate]; unfold off; omega
    · have := used_bd t6 u (List.mem_of_getElem? hu)
      exact hz0 u.1 u.2.1 (by omega) (by omega) (by omega)
    · have := T.g hg
      exact hz0 g.1 g.2 (by omega) (by omega) (by omega)
    rintro ⟨i, p, b, σ⟩ ⟨hi, hb, hpl, hAt, hAz, hAg⟩
    dsimp only at hi hb hpl hAt hAz hAg ⊢
    have hpb := bs_length p
    by_cases hlt : i < U.length
    · obtain ⟨u, hu, hu'⟩ := getN hlt
      obtain ⟨d, hdd, hdd'⟩ := getN (l := D) (k := i) (by omega)
      have hdm := hd d (List.mem_of_getElem? hdd')
      have hub := T.u hu' hdd'
      have hul := T.ulen hu' hdd'
      have hdl := bs_length d
      have hwin : off fr u.1 + 8 * u.2.1.toNat ≤ p.length := by rw [hpl]; unfold off; omega
      have hz := hAz i u (Nat.le_refl _) hu'
      have htag : 0 ≤ 64 * u.2.1 + u.2.2 + 1 ∧ 64 * u.2.1 + u.2.2 + 1 ≤ 4611686018427387903 := by omega
      have h8 := le_length 8 (64 * u.2.1 + u.2.2 + 1).toNat
      have hlb : b.bid ≠ some σ.length := not_new hb
      have heq : ub u d = le 8 (64 * u.2.1 + u.2.2 + 1).toNat ++ d ++ List.replicate (8 * u.2.1.toNat - 16 - d.length) 0 ++ le 8 (64 * u.2.1 + u.2.2 + 1).toNat := by
        unfold ub pc
        rw [show 64 * u.2.1 + (u.2.2 + 1) = 64 * u.2.1 + u.2.2 + 1 from by omega, show 8 * (u.2.1 - 2).toNat - d.length = 8 * u.2.1.toNat - 16 - d.length from by omega]
      repeat' (first
        | ((with_reducible refine Side.intro ?_) <;> (first
        | omega
        | exact Nat.le_of_ble_eq_true rfl
        | exact rfl
        ))
        | ((conv => whnf) <;> (first
        | (with_reducible refine and_same ?_)
        | (with_reducible refine and_side ?_ ?_)
        | ((with_reducible apply Br.yes) ; (focus omega))
        | ((with_reducible apply blkAt_intro) ; (focus (first
        | ((repeat (first
        | exact get_new
        | exact get_set get_new
        )); done)
        )) ; (focus (first | rfl | assumption | omega)) ; (try dsimp only))
        | ((with_reducible apply nthR_bk) ; (focus assumption))
        | (with_reducible refine ia_sl ?_ ?_)
        | (with_reducible refine lenR_sl ?_)
        ))
        )
      all_goals (conv => whnf)
      all_goals (try dsimp only)
      refine RPut_call p (u.1 - fr) (64 * u.2.1 + u.2.2 + 1) (by omega) (by omega) (by unfold off at hpl; omega) htag (Looks.ownbs (hb.keepN (by (repeat (first
            | exact Gr.refl _ _
            | refine Gr.setNew ?_ (by first | exact Nat.le_refl _ | (simp only [newB_length, List.length_set, List.length_append, List.length_singleton]; omega) | omega) _
            | refine Gr.addN ?_ _
            ))))) fun H5 y5 hg5 hy5 hyn5 => ?_
      have eo : 8 * (u.1 - fr).toNat = off fr u.1 := by unfold off; omega
      have eo2 : (off fr u.1 : Int) = 8 * (u.1 - fr) := by unfold off; omega
      rw [eo] at hy5
      have hbox5 := gr_get hg5 (get_set get_new)
      have hlz : (List.replicate (8 * u.2.1.toNat) (0 : UInt8)).length = 8 * u.2.1.toNat := List.length_replicate
      have hL1 : At (pt p (off fr u.1) (le 8 (64 * u.2.1 + u.2.2 + 1).toNat)) (off fr u.1) (pt (List.replicate (8 * u.2.1.toNat) 0) 0 (le 8 (64 * u.2.1 + u.2.2 + 1).toNat)) := hz.inner (b := 0) (by omega)
      have hW1 : Win p (pt p (off fr u.1) (le 8 (64 * u.2.1 + u.2.2 + 1).toNat)) (off fr u.1) (8 * u.2.1.toNat) := Win.pt (b := 0) hwin (by omega)
      have hz1l := pt_length (p := List.replicate (8 * u.2.1.toNat) (0 : UInt8)) (a := 0) (d := le 8 (64 * u.2.1 + u.2.2 + 1).toNat) (by omega)
      generalize ht : le 8 (64 * u.2.1 + u.2.2 + 1).toNat = t at *
      generalize hp1 : pt p (off fr u.1) t = p1 at *
      generalize hz1 : pt (List.replicate (8 * u.2.1.toNat) 0) 0 t = z1 at *
      have hp1l := hW1.1
      repeat' (first
        | ((conv => whnf) <;> (first
        | (with_reducible refine and_same ?_)
        | ((with_reducible apply Br.yes) ; (focus omega))
        | ((with_reducible apply blkAt_intro) ; (focus (first
        | ((repeat (first
        | assumption
        )); done)
        )) ; (focus (first | rfl | assumption | omega)) ; (try dsimp only))
        ))
        )
      all_goals (conv => whnf)
      all_goals (try dsimp only)
      refine RPut_call p1 (u.1 - fr + u.2.1 - 1) (64 * u.2.1 + u.2.2 + 1) (by omega) (by omega) (by unfold off at hpl; omega) htag (Looks.ownbs hy5) fun H6 y6 hg6 hy6 hyn6 => ?_
      have eo3 : 8 * (u.1 - fr + u.2.1 - 1).toNat = off fr u.1 + (8 * u.2.1.toNat - 8) := by unfold off; omega
      rw [eo3, ht] at hy6
      have hbox6 := gr_get hg6 hbox5
      have hL2 := hL1.inner (b := 8 * u.2.1.toNat - 8) (e := t) (by omega)
      have hW2 : Win p (pt p1 (off fr u.1 + (8 * u.2.1.toNat - 8)) t) (off fr u.1) (8 * u.2.1.toNat) := hW1.trans (Win.pt (by omega) (by omega))
      have hz2l := pt_length (p := z1) (a := 8 * u.2.1.toNat - 8) (d := t) (by omega)
      generalize hp2 : pt p1 (off fr u.1 + (8 * u.2.1.toNat - 8)) t = p2 at *
      generalize hz2 : pt z1 (8 * u.2.1.toNat - 8) t = z2 at *
      have hp2l := hW2.1
      have hp2b := bs_length p2
      obtain ⟨id, gen, sp', rfl, hb6⟩ := hy6.ne (fun e => by rw [e] at hp2b; simp at hp2b; unfold off at hpl; omega)
      clear hy6 hy5
      skip
      all_goals (conv => whnf)
      all_goals (try dsimp only)
      refine loop_at (α := Nat × AH) (fun a => [(16, .int .i64 a.1)]) (fun a => a.2) (fun a => a.1 ≤ d.length ∧ a.2[id]? = some { sz := 1, els := bs (pt p2 (off fr u.1 + 8) (d.take a.1)) ++ sp', gen := gen, wr := true, pure := true }) (fun a => d.length - a.1) (0, H6) ⟨Nat.zero_le _, by dsimp only; rw [show pt p2 (off fr u.1 + 8) (d.take 0) = p2 from by simp [pt]]; exact hb6⟩ rfl rfl ?_
      rintro ⟨m, σ7⟩ ⟨hmd, hb7⟩
      dsimp only at hmd hb7 ⊢
      by_cases hmlt : m < d.length
      · obtain ⟨v, hv, hv'⟩ := getN hmlt
        have htl : (d.take m).length = m := by rw [List.length_take]; omega
        have hpl7 := pt_length (p := p2) (a := off fr u.1 + 8) (d := d.take m) (by omega)
        have hpb7 := bs_length (pt p2 (off fr u.1 + 8) (d.take m))
        have hset := wr_step p2 d (off fr u.1 + 8) m v hv' (by omega)
        have e3 : (bs (pt p2 (off fr u.1 + 8) (d.take m)) ++ sp').set (0 + (8 * (u.1 - fr + 1) + (m : Int)).toNat) [AV.int IntKind.u8 (v.toNat : Int)] = bs (pt p2 (off fr u.1 + 8) (d.take (m + 1))) ++ sp' := by
          rw [show 0 + (8 * (u.1 - fr + 1) + (m : Int)).toNat = off fr u.1 + 8 + m from by omega, List.set_append_left _ _ (by omega), bs_set]
          have e4 : pt p2 (off fr u.1 + 8) (d.take m) = p2.take (off fr u.1 + 8) ++ d.take m ++ p2.drop (off fr u.1 + 8 + m) := by unfold pt; rw [htl]
          have e5 : pt p2 (off fr u.1 + 8) (d.take (m + 1)) = p2.take (off fr u.1 + 8) ++ d.take (m + 1) ++ p2.drop (off fr u.1 + 8 + (m + 1)) := by
            unfold pt
            rw [show (d.take (m + 1)).length = m + 1 from by rw [List.length_take]; omega]
          rw [e4, e5, hset]
        repeat' (first
          | ((with_reducible refine Side.intro ?_) <;> (first
          | omega
          | exact Nat.le_of_ble_eq_true rfl
          | exact rfl
          ))
          | ((conv => whnf) <;> (first
          | (with_reducible refine and_same ?_)
          | (with_reducible refine and_side ?_ ?_)
          | ((with_reducible apply Br.yes) ; (focus omega))
          | ((with_reducible apply blkAt_intro) ; (focus (first
          | ((repeat (first
          | assumption
          )); done)
          )) ; (focus (first | rfl | assumption | omega)) ; (try dsimp only))
          | ((with_reducible apply nthR_dat) ; (focus assumption))
          | ((with_reducible apply nthR_bs1) ; (focus assumption))
          | (with_reducible refine ia_sl ?_ ?_)
          | (with_reducible refine IaW.of ?_)
          | (with_reducible refine nthR_z ?_)
          | ((with_reducible apply nthR_left) ; (focus (first | omega | (simp only [List.length_append, List.length_cons, List.length_nil, List.length_take, List.length_drop, bs_length]; omega))))
          | (with_reducible refine lenR_sl ?_)
          | ((with_reducible apply nthR_bs) ; (focus (first | omega | (simp only [List.length_append, List.length_cons, List.length_nil, List.length_take, List.length_drop, bs_length]; omega))))
          | (with_reducible intro _)
          ))
          )
        all_goals (conv => whnf)
        all_goals (try dsimp only)
        rw [e3]
        refine ⟨(m + 1, _), rfl, rfl, ⟨by dsimp only; omega, get_set hb7⟩, by dsimp only; omega⟩
      · have hmm : m = d.length := by omega
        subst hmm
        rw [List.take_length] at hb7
        have hL3 := hL2.inner (b := 8) (e := d) (by omega)
        have hW3 : Win p (pt p2 (off fr u.1 + 8) d) (off fr u.1) (8 * u.2.1.toNat) := hW2.trans (Win.pt (by omega) (by omega))
        have hub3 : pt z2 8 d = ub u d := by
          rw [← hz2, ← hz1, pc_pts2 h8 (by omega), heq]
        rw [hub3] at hL3
        generalize hp3 : pt p2 (off fr u.1 + 8) d = p3 at *
        have hp3l := hW3.1
        have hp3b := bs_length p3
        repeat' (first
          | ((with_reducible refine Side.intro ?_) <;> (first
          | omega
          ))
          | ((conv => whnf) <;> (first
          | (with_reducible refine and_same ?_)
          | ((with_reducible apply Br.yes) ; (focus omega))
          | ((with_reducible apply Br.no) ; (focus omega))
          | ((with_reducible apply nthR_dat) ; (focus assumption))
          | (with_reducible refine ia_sl ?_ ?_)
          | (with_reducible refine lenR_sl ?_)
          ))
          )
        all_goals (conv => whnf)
        all_goals (try dsimp only)
        refine ⟨(i + 1, p3, .rsl id gen 0 (bs p2).length none, σ7), rfl, rfl, ⟨by dsimp only; omega, .mk' (sp := sp') hb7 (by dsimp only; omega) rfl, by dsimp only; omega, fun k v e hk hv he => ?_, fun k v hk hv => ?_, fun g hg => ?_⟩, by dsimp only; omega⟩
        · dsimp only at hk ⊢
          by_cases hki : k = i
          · subst hki
            rw [hu'] at hv; cases hv
            rw [hdd'] at he; cases he
            exact hL3
          · have hlt2 := used_lt t6 (show k < i from by omega) hv hu'
            have hvl := T.ulen hv he
            have hvb := T.u hv he
            exact (hAt k v e (by omega) hv he).win hW3 (.inl (by rw [hvl]; unfold off; omega))
        · dsimp only at hk ⊢
          have hlt2 := used_lt t6 (show i < k from by omega) hu' hv
          exact (hAz k v (by omega) hv).win hW3 (.inr (by unfold off; omega))
        · dsimp only
          have hgb := T.g hg
          have hap := used_gap t5 t6 t4 t2 u (List.mem_of_getElem? hu') g hg
          exact (hAg g hg).win hW3 (by rw [List.length_replicate]; unfold off; omega)
    · have hil : i = U.length := by omega
      subst hil
      repeat' (first
        | ((conv => whnf) <;> (first
        | (with_reducible refine and_same ?_)
        | ((with_reducible apply Br.no) ; (focus omega))
        | (with_reducible refine lenR_sl ?_)
        ))
        )
      all_goals (conv => whnf)
      all_goals (try dsimp only)
      refine free_call fr to U (by omega) (Looks.bk _ _ _) fun H2 z hg2 hz hzn => ?_
      rw [gapR, hrg, if_pos rfl, gp_eq] at hz
      replace hb := hb.keepN hg2
      generalize hGd : gp to fr U = G at *
      have hgl2 := sp_length G
      repeat' (first
        | ((with_reducible refine Side.intro ?_) <;> (first
        | omega
        ))
        | ((conv => whnf) <;> (first
        | (with_reducible refine and_same ?_)
        | (with_reducible refine and_side ?_ ?_)
        | ((with_reducible apply Br.yes) ; (focus omega))
        | ((with_reducible apply lenR_own) ; (focus (apply Own.upTo ; (focus assumption) ; (repeat (first | exact Gr.refl _ _ | assumption | with_reducible refine Gr.trans ?_ (Gr.boxN _ _ _ _ _) | refine Gr.setNew ?_ (by first | exact Nat.le_refl _ | (simp only [newB_length, List.length_set, List.length_append, List.length_singleton]; omega) | omega) _ | refine Gr.addN ?_ _ | refine Gr.newN ?_ _ _ _ | exact Gr.trans (by assumption) (by assumption) | refine Gr.trans ?_ (by assumption) | refine Gr.trans (by assumption) ?_)) ; (first | done | fail))))
        ))
        )
      all_goals (conv => whnf)
      all_goals (try dsimp only)
      have hbH : b.bid ≠ some H2.length := not_new hb
      have hzH : z.bid ≠ some H2.length := not_new hz
      rw [is_replicate]
      refine loop_at (α := Nat × List UInt8 × AV × AH) (fun a => [(12, a.2.2.1), (19, .int .i64 ((((sp G).length : Nat) : Int) - 1 - a.1))]) (fun a => a.2.2.2) (fun a => a.1 ≤ G.length ∧ Own a.2.2.2 1 a.2.2.1 (bs a.2.1) ∧ a.2.1.length = off fr to ∧ (∀ (k : Nat) u d, U[k]? = some u → D[k]? = some d → At a.2.1 (off fr u.1) (ub u d)) ∧ (∀ (k : Nat) g, G.length ≤ k + a.1 → G[k]? = some g → At a.2.1 (off fr g.1) (fb G k g)) ∧ (∀ (k : Nat) g, k + a.1 < G.length → G[k]? = some g → At a.2.1 (off fr g.1) (List.replicate (8 * g.2.toNat) 0)) ∧ Own a.2.2.2 2 z (sp G) ∧ a.2.2.2[H2.length]? = some { sz := 1, els := is (hdT G (G.length - a.1)), gen := 0, wr := true, pure := true } ∧ a.2.2.1.bid ≠ some H2.length) (fun a => G.length - a.1) (0, p, b, _) ⟨Nat.zero_le _, hb.keepN (by (repeat (first
            | exact Gr.refl _ _
            | refine Gr.addN ?_ _
            ))), hpl, fun k u d h1 h2 => hAt k u d (List.getElem?_eq_some_iff.1 h1).1 h1 h2, fun k g hk hg => by have := (List.getElem?_eq_some_iff.1 hg).1; dsimp only at hk; omega, fun k g _ hg => hAg g (List.mem_of_getElem? hg), hz.keepN (by (repeat (first
            | exact Gr.refl _ _
            | refine Gr.addN ?_ _
            ))), by dsimp only; rw [Nat.sub_zero, hdT_len]; exact get_new, hbH⟩ (by dsimp only; rw [show (((sp G).length : Nat) : Int) - 1 - ((0 : Nat) : Int) = (((sp G).length : Nat) : Int) - 1 from by omega]; rfl) rfl ?_
      clear hb hpb hpl hAt hAz hAg hbH
      rintro ⟨m, p, b, σ⟩ ⟨hm, hb, hpl, hAt, hAf, hAz, hz1, hh1, hbH⟩
      dsimp only at hm hb hpl hAt hAf hAz hz1 hh1 hbH ⊢
      have hpb := bs_length p
      have hlb := (List.getElem?_eq_some_iff.1 hh1).1
      by_cases hml : m < G.length
      · obtain ⟨i, hi⟩ : ∃ i, i = G.length - 1 - m := ⟨_, rfl⟩
        have eidx : (((sp G).length : Nat) : Int) - 1 - (m : Int) = (i : Int) := by omega
        have hnext : (i : Int) - 1 = (((sp G).length : Nat) : Int) - 1 - ((m + 1 : Nat) : Int) := by omega
        rw [eidx]
        obtain ⟨g, hgg, hgg'⟩ := getN (l := G) (k := i) (by omega)
        have hgm : g ∈ gp to fr U := by rw [hGd]; exact List.mem_of_getElem? hgg'
        have hgb := T.g hgm
        have n1 := nxt_bd hgo i
        have n2 := prv_bd hgo i
        have hfl := fb_length (G := G) (j := i) hgb.2.2
        have hwin : off fr g.1 + 8 * g.2.toNat ≤ p.length := by rw [hpl]; unfold off; omega
        have eo : 8 * (g.1 - fr).toNat = off fr g.1 := by unfold off; omega
        have eo2 : (off fr g.1 : Int) = 8 * (g.1 - fr) := by unfold off; omega
        have hzz := hAz i g (by omega) hgg'
        have hlz : (List.replicate (8 * g.2.toNat) (0 : UInt8)).length = 8 * g.2.toNat := List.length_replicate
        have h8 := le_length 8 (64 * g.2).toNat
        have h8n := le_length 8 (nxt G i).toNat
        have h8p := le_length 8 (prv G i).toNat
        have heq : fb G i g = le 8 (64 * g.2).toNat ++ (le 8 (nxt G i).toNat ++ le 8 (prv G i).toNat) ++ List.replicate (8 * g.2.toNat - 32) 0 ++ le 8 (64 * g.2).toNat := by
          unfold fb pc
          rw [show 64 * g.2 + 0 = 64 * g.2 from by omega, cat_length, show cat [nxt G i, prv G i] = le 8 (nxt G i).toNat ++ le 8 (prv G i).toNat from by simp [cat], show 8 * (g.2 - 2).toNat - [nxt G i, prv G i].length * 8 = 8 * g.2.toNat - 32 from by simp; omega]
        generalize htn : le 8 (nxt G i).toNat = tn at *
        generalize htp : le 8 (prv G i).toNat = tp' at *
        generalize ht : le 8 (64 * g.2).toNat = t at *
        repeat' (first
          | ((with_reducible refine Side.intro ?_) <;> (first
          | omega
          ))
          | ((conv => whnf) <;> (first
          | (with_reducible refine and_same ?_)
          | ((with_reducible apply Br.yes) ; (focus omega))
          | ((with_reducible apply blkAt_intro) ; (focus (first
          | ((repeat (first
          | assumption
          )); done)
          )) ; (focus (first | rfl | assumption | omega)) ; (try dsimp only))
          | ((with_reducible apply nthR_sp) ; (focus assumption))
          | ((with_reducible apply ia_own) ; (focus assumption))
          | (with_reducible refine nthR_z ?_)
          | ((with_reducible apply nthR_left) ; (focus (first | omega | (simp only [List.length_append, List.length_cons, List.length_nil, List.length_take, List.length_drop, bs_length]; omega))))
          | (with_reducible intro _)
          ))
          )
        all_goals (conv => whnf)
        all_goals (try dsimp only)
        refine RPut_call p (g.1 - fr) (64 * g.2) (by omega) (by omega) (by unfold off at hpl; omega) (by omega) (Looks.ownbs hb) fun H5 y5 hg5 hy5 hyn5 => ?_
        rw [eo, ht] at hy5
        replace hz1 := hz1.keepN hg5
        replace hh1 := hg5.2 H2.length _ (by (first
              | ((repeat (first
              | assumption
              )); done)
              )) (by simp)
        have hL1 : At (pt p (off fr g.1) t) (off fr g.1) (pt (List.replicate (8 * g.2.toNat) 0) 0 t) := hzz.inner (b := 0) (by omega)
        have hW1 : Win p (pt p (off fr g.1) t) (off fr g.1) (8 * g.2.toNat) := Win.pt (b := 0) hwin (by omega)
        have hq1l := pt_length (p := List.replicate (8 * g.2.toNat) (0 : UInt8)) (a := 0) (d := t) (by omega)
        generalize hp1 : pt p (off fr g.1) t = p1 at *
        generalize hq1 : pt (List.replicate (8 * g.2.toNat) 0) 0 t = q1 at *
        have hp1l := hW1.1
        repeat' (first
          | ((conv => whnf) <;> (first
          | (with_reducible refine and_same ?_)
          | ((with_reducible apply Br.yes) ; (focus omega))
          ))
          )
        all_goals (conv => whnf)
        all_goals (try dsimp only)
        refine beside_up_call G (by omega) hgo i (by omega) (Looks.ownsp hz1) fun H6 hg6 => ?_
        replace hy5 := hy5.keepN hg6
        replace hz1 := hz1.keepN hg6
        replace hh1 := hg6.2 H2.length _ (by (first
              | ((repeat (first
              | assumption
              )); done)
              )) (by simp)
        skip
        all_goals (conv => whnf)
        all_goals (try dsimp only)
        refine RPut_call p1 (g.1 - fr + 1) (nxt G i) (by omega) (by omega) (by unfold off at hpl; omega) (by omega) (Looks.ownbs hy5) fun H7 y7 hg7 hy7 hyn7 => ?_
        rw [show 8 * (g.1 - fr + 1).toNat = off fr g.1 + 8 from by omega, htn] at hy7
        replace hz1 := hz1.keepN hg7
        replace hh1 := hg7.2 H2.length _ (by (first
              | ((repeat (first
              | assumption
              )); done)
              )) (by simp)
        have hL2 := hL1.inner (b := 8) (e := tn) (by omega)
        have hW2 : Win p (pt p1 (off fr g.1 + 8) tn) (off fr g.1) (8 * g.2.toNat) := hW1.trans (Win.pt (by omega) (by omega))
        have hq2l := pt_length (p := q1) (a := 8) (d := tn) (by omega)
        generalize hp2 : pt p1 (off fr g.1 + 8) tn = p2 at *
        generalize hq2 : pt q1 8 tn = q2 at *
        have hp2l := hW2.1
        clear hy5
        repeat' (first
          | ((conv => whnf) <;> (first
          | (with_reducible refine and_same ?_)
          | ((with_reducible apply Br.yes) ; (focus omega))
          ))
          )
        all_goals (conv => whnf)
        all_goals (try dsimp only)
        refine beside_down_call G (by omega) hgo i (by omega) (Looks.ownsp hz1) fun H8 hg8 => ?_
        replace hy7 := hy7.keepN hg8
        replace hz1 := hz1.keepN hg8
        replace hh1 := hg8.2 H2.length _ (by (first
              | ((repeat (first
              | assumption
              )); done)
              )) (by simp)
        skip
        all_goals (conv => whnf)
        all_goals (try dsimp only)
        refine RPut_call p2 (g.1 - fr + 2) (prv G i) (by omega) (by omega) (by unfold off at hpl; omega) (by omega) (Looks.ownbs hy7) fun H9 y9 hg9 hy9 hyn9 => ?_
        rw [show 8 * (g.1 - fr + 2).toNat = off fr g.1 + 16 from by omega, htp] at hy9
        replace hz1 := hz1.keepN hg9
        replace hh1 := hg9.2 H2.length _ (by (first
              | ((repeat (first
              | assumption
              )); done)
              )) (by simp)
        have hL3 := hL2.inner (b := 16) (e := tp') (by omega)
        have hW3 : Win p (pt p2 (off fr g.1 + 16) tp') (off fr g.1) (8 * g.2.toNat) := hW2.trans (Win.pt (by omega) (by omega))
        have hq3l := pt_length (p := q2) (a := 16) (d := tp') (by omega)
        generalize hp3 : pt p2 (off fr g.1 + 16) tp' = p3 at *
        generalize hq3 : pt q2 16 tp' = q3 at *
        have hp3l := hW3.1
        clear hy7
        repeat' (first
          | ((with_reducible refine Side.intro ?_) <;> (first
          | omega
          ))
          | ((conv => whnf) <;> (first
          | (with_reducible refine and_same ?_)
          | ((with_reducible apply Br.yes) ; (focus omega))
          | ((with_reducible apply blkAt_intro) ; (focus (first
          | ((repeat (first
          | assumption
          )); done)
          )) ; (focus (first | rfl | assumption | omega)) ; (try dsimp only))
          | ((with_reducible apply nthR_sp) ; (focus assumption))
          | ((with_reducible apply ia_own) ; (focus assumption))
          | (with_reducible refine nthR_z ?_)
          | ((with_reducible apply nthR_left) ; (focus (first | omega | (simp only [List.length_append, List.length_cons, List.length_nil, List.length_take, List.length_drop, bs_length]; omega))))
          | (with_reducible intro _)
          ))
          )
        all_goals (conv => whnf)
        all_goals (try dsimp only)
        refine RPut_call p3 (g.1 - fr + g.2 - 1) (64 * g.2) (by omega) (by omega) (by unfold off at hpl; omega) (by omega) (Looks.ownbs hy9) fun H10 y10 hg10 hy10 hyn10 => ?_
        rw [show 8 * (g.1 - fr + g.2 - 1).toNat = off fr g.1 + (8 * g.2.toNat - 8) from by omega, ht] at hy10
        replace hz1 := hz1.keepN hg10
        have hlb9 := (List.getElem?_eq_some_iff.1 hh1).1
        replace hh1 := hg10.2 H2.length _ (by (first
              | ((repeat (first
              | assumption
              )); done)
              )) (by simp)
        have hL4 := hL3.inner (b := 8 * g.2.toNat - 8) (e := t) (by omega)
        have hW4 : Win p (pt p3 (off fr g.1 + (8 * g.2.toNat - 8)) t) (off fr g.1) (8 * g.2.toNat) := hW3.trans (Win.pt (by omega) (by omega))
        have hfb : pt q3 (8 * g.2.toNat - 8) t = fb G i g := by rw [heq, ← hq3, ← hq2, ← hq1, pc_pts4 h8 h8n h8p (by omega)]
        rw [hfb] at hL4
        generalize hp4 : pt p3 (off fr g.1 + (8 * g.2.toNat - 8)) t = p4 at *
        have hp4l := hW4.1
        clear hy9
        repeat' (first
          | ((with_reducible refine Side.intro ?_) <;> (first
          | omega
          ))
          | ((conv => whnf) <;> (first
          | ((with_reducible apply blkAt_intro) ; (focus (first
          | ((repeat (first
          | assumption
          )); done)
          )) ; (focus (first | rfl | assumption | omega)) ; (try dsimp only))
          | ((with_reducible apply nthR_sp) ; (focus assumption))
          | ((with_reducible apply ia_own) ; (focus assumption))
          | (with_reducible refine nthR_z ?_)
          | ((with_reducible apply nthR_left) ; (focus (first | omega | (simp only [List.length_append, List.length_cons, List.length_nil, List.length_take, List.length_drop, bs_length]; omega))))
          | (with_reducible intro _)
          ))
          )
        all_goals (conv => whnf)
        all_goals (try dsimp only)
        refine RList_call g.2 fun H11 hg11 => ?_
        rw [lsV, if_pos hgb.2.2]
        replace hz1 := hz1.keepN hg11
        replace hy10 := hy10.keepN hg11
        replace hh1 := hg11.2 H2.length _ (by (first
              | ((repeat (first
              | assumption
              )); done)
              )) (by simp)
        have hyb : y10.bid ≠ some H2.length := fun e => by have := hyn10 _ e; omega
        have eim : G.length - m = i + 1 := by omega
        have eim2 : G.length - (m + 1) = i := by omega
        have hstep := hdT_step hgg'
        have hc7 := lw_lt g.2
        rw [eim] at hh1
        have hv : (hdT G (i + 1))[0 + ((lw g.2 : Nat) : Int).toNat]? = some (nxL (lw g.2) (G.drop (i + 1))) := by
          rw [Nat.zero_add, Int.toNat_natCast]
          simp [hdT, List.getElem?_range hc7]
        have hdl : (is (hdT G (i + 1))).length = 7 := by rw [is_length]; simp [hdT]
        generalize hdT G (i + 1) = hs at *
        repeat' (first
          | ((with_reducible refine Side.intro ?_) <;> (first
          | omega
          | exact Nat.le_of_ble_eq_true rfl
          | exact rfl
          ))
          | ((conv => whnf) <;> (first
          | (with_reducible refine and_same ?_)
          | (with_reducible refine and_side ?_ ?_)
          | ((with_reducible apply Br.yes) ; (focus omega))
          | ((with_reducible apply blkAt_intro) ; (focus (first
          | ((repeat (first
          | assumption
          )); done)
          )) ; (focus (first | rfl | assumption | omega)) ; (try dsimp only))
          | ((with_reducible apply nthR_sp) ; (focus assumption))
          | ((with_reducible apply nthR_is1) ; (focus assumption))
          | ((with_reducible apply ia_own) ; (focus assumption))
          | (with_reducible refine IaW.of ?_)
          | (with_reducible refine nthR_z ?_)
          | ((with_reducible apply nthR_left) ; (focus (first | omega | (simp only [List.length_append, List.length_cons, List.length_nil, List.length_take, List.length_drop, bs_length]; omega))))
          | (with_reducible intro _)
          ))
          )
        all_goals (conv => whnf)
        all_goals (try dsimp only)
        have e3 : (is hs).set (0 + lw g.2) [.int .i64 (g.1 + 1)] = is (hs.set (lw g.2) (g.1 + 1)) := by rw [Nat.zero_add, is_set]
        refine ⟨(m + 1, p4, y10, _), by dsimp only; rw [← hnext]; rfl, rfl, ⟨by dsimp only; omega, Own.keep (Gr.set _ _ _) hy10 (.inr fun e => hyb e.symm), by dsimp only; omega, fun k u d h1 h2 => ?_, fun k x hk hx => ?_, fun k x hk hx => ?_, Own.keep (Gr.set _ _ _) hz1 (.inr fun e => hzH e.symm), by dsimp only; rw [eim2, hstep, ← e3]; (first
              | ((repeat (first
              | exact get_set (by assumption)
              )); done)
              ), hyb⟩, by dsimp only; omega⟩
        · dsimp only
          have hul := T.ulen h1 h2
          have hub := T.u h1 h2
          have hap := used_gap t5 t6 t4 t2 u (List.mem_of_getElem? h1) g hgm
          exact (hAt k u d h1 h2).win hW4 (by rw [hul]; unfold off; omega)
        · dsimp only at hk ⊢
          by_cases hki : k = i
          · subst hki
            rw [hgg'] at hx; cases hx
            exact hL4
          · have hx2 : (gp to fr U)[k]? = some x := by rw [hGd]; exact hx
            have hg2 : (gp to fr U)[i]? = some g := by rw [hGd]; exact hgg'
            have hlt2 := gp_lt t5 t6 t4 t2 (show i < k from by omega) hg2 hx2
            have hxb := T.g (List.mem_of_getElem? hx2)
            have hxl := fb_length (G := G) (j := k) hxb.2.2
            exact (hAf k x (by omega) hx).win hW4 (.inr (by unfold off; omega))
        · dsimp only at hk ⊢
          have hx2 : (gp to fr U)[k]? = some x := by rw [hGd]; exact hx
          have hg2 : (gp to fr U)[i]? = some g := by rw [hGd]; exact hgg'
          have hlt2 := gp_lt t5 t6 t4 t2 (show k < i from by omega) hx2 hg2
          have hxb := T.g (List.mem_of_getElem? hx2)
          exact (hAz k x (by omega) hx).win hW4 (.inl (by rw [List.length_replicate]; unfold off; omega))
      · have hml : m = G.length := by omega
        subst hml
        have him := T.imgEq hpl hAt (fun k g hg => by rw [hGd] at hg ⊢; exact hAf k g (by omega) hg)
        rw [him] at hb hpb
        rw [Nat.sub_self, hdT_zero] at hh1
        have hil : (img fr to U D).length = off fr to := by rw [← him]; exact hpl
        have hdl : (is (hdsL G)).length = 7 := by rw [is_length]; simp [hdsL]
        generalize img fr to U D = P at *
        repeat' (first
          | ((with_reducible refine Side.intro ?_) <;> (first
          | omega
          ))
          | ((conv => whnf) <;> (first
          | (with_reducible refine and_same ?_)
          | (with_reducible refine and_side ?_ ?_)
          | ((with_reducible apply Br.no) ; (focus omega))
          | ((with_reducible apply blkAt_intro) ; (focus (first
          | ((repeat (first
          | assumption
          )); done)
          )) ; (focus (first | rfl | assumption | omega)) ; (try dsimp only))
          | ((with_reducible apply NOut.own) ; (focus assumption))
          | (with_reducible refine NOut.lit ?_)
          ))
          )
        all_goals (conv => whnf)
        all_goals (try dsimp only)
        all_goals try rw [List.take_of_length_le (show (is (hdsL G)).length ≤ Int.toNat 7 from by rw [hdl]; exact Nat.le_refl _)]
        all_goals first
          | exact ret_same rfl
          | exact Side.intro (fresh_tup (fresh_cons (fresh_bs _) (fresh_cons (FreshA.sl _ _ FreshA_is) (fresh_cons (FreshA.int _ _) fresh_nil))))
          | (refine Side.intro ?_
             cases hq : b.bid with
             | none => simp
             | some a =>
               have : a ≠ H2.length := fun e => hbH (by rw [hq, e])
               simp [this])
          | trace_state
theorem RWrite_call (fr to : Int) (U : List (Int × Int × Int)) (D : List (List UInt8)) (hU : U.length ≤ 4611) (hD : D.length ≤ 4611686) (hd : ∀ d, d ∈ D → d.length ≤ 4611686018) {σ : AH} {x y : AV} (hx : Looks σ x (.sl 3 (Go.Proofs.Ytjbfdhnfdehdeaa.bk U) false)) (hy : Looks σ y (.sl 1 (Go.Proofs.Ytjbfdhnfdehdeaa.dat D) false)) {Q : AV → AH → Prop}
    (h : ∀ σ' b h, Gr σ σ' none → Own σ' 1 b (bs (twR fr to U D)) → Own σ' 1 h (is (twH fr to U D)) → New σ b → New σ h → (∀ id, b.bid = some id → h.bid ≠ some id) → Q (.tup [b, h, .int .i64 (twE fr to U D)]) σ') : CallS Try.prog F.joistref11_Write [.int .i64 fr, .int .i64 to, x, y] σ Q := by
  refine (RWrite_ok fr to U D hU hD hd).call (.cons (.int _ _ _) (.cons (.int _ _ _) (.cons hx (.cons hy .nil)))) ?_
  rintro _ x σ1 rfl hg hG
  obtain ⟨b, hh, e, rfl, h1, h2, h3, n1, n2, _, a1, _⟩ := hG.three
  obtain rfl := h3.same_inv rfl
  exact h σ1 b hh hg h1.own_inv h2.own_inv n1 n2 a1
end Go.Proofs.Ytjbfdhnfdehdeaa
