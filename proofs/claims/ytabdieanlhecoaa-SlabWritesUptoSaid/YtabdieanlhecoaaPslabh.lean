import Derived.Test.YtabdieanlhecoaaPlaws15c
import Derived.Test.YtabdieanlhecoaaVL
namespace Go.Proofs.Ytabdieanlhecoaa
open Go Go.Proofs.Ytabdieanlhecoaa.V
set_option maxRecDepth 20000
attribute [local irreducible] CallS AOK AOKn ALoop Side Ref.ok
/-- What slab.Read leaves, its data in blocks of their own. -/
def SrH (t : List UInt8) (x : AV) (τ : AH) : Prop := ∃ c d xs, x = .tup [.int .i64 (srI t (rof t)), c, d, .int .i64 (srI t (rN t)), .int .i64 (srI t (rP t)), .bool (srOk t)] ∧
  Own τ 1 c (is (srC t)) ∧ NestS τ d xs ∧ Sep τ xs (srD t) ∧ (c.bid = none ∨ c.bid ≠ d.bid) ∧ Off c xs ∧ Off d xs
theorem SrH.no {t : List UInt8} (h : srOk t = false) (τ : AH) : SrH t (.tup [.int .i64 0, .nils, .nils, .int .i64 0, .int .i64 0, .bool false]) τ := by
  obtain ⟨r1, r2, r3⟩ := sr_no h
  refine ⟨.nils, .nils, [], by rw [r1, r1, r1, h], by rw [r2]; exact Own.nil _ _, NestR.nil _ _, by rw [r3]; exact Sep.nil _, .inl rfl, fun y hy => by simp at hy, fun y hy => by simp at hy⟩
set_option maxHeartbeats 4000000 in
theorem SRead_h (t : List UInt8) (hs : t.length ≤ 4611686018) : CallS Try.prog F.slab_Read [.sl 1 (bs t) false] [] (SrH t) := by
  have htn := bs_length t
  refine call_of_body mixed fc_slab_Read_ok (by simp [fc_slab_Read]) ?_
  by_cases hlen : t.length = 256
  · have g0 := getV_bd t 0
    have g1 := getV_bd t 1
    have g2 := getV_bd t 2
    have g3 := getV_bd t 3
    repeat' (first
      | ((conv => whnf) <;> (first
      | (with_reducible refine and_same ?_)
      | ((with_reducible apply Br.no) ; (focus omega))
      | (with_reducible refine lenR_sl ?_)
      ))
      )
    all_goals (conv => whnf)
    all_goals (try dsimp only)
    refine Get_call t 0 (by omega) (.bs _ _ _) fun H1 hg1 => ?_
    skip
    all_goals (conv => whnf)
    all_goals (try dsimp only)
    refine Get_call t 1 (by omega) (.bs _ _ _) fun H2 hg2 => ?_
    skip
    all_goals (conv => whnf)
    all_goals (try dsimp only)
    refine Get_call t 2 (by omega) (.bs _ _ _) fun H3 hg3 => ?_
    skip
    all_goals (conv => whnf)
    all_goals (try dsimp only)
    refine Get_call t 3 (by omega) (.bs _ _ _) fun H4 hg4 => ?_
    repeat' (first
      | ((conv => whnf) <;> (first
      | (with_reducible refine and_same ?_)
      | ((with_reducible apply Br.yes) ; (focus omega))
      ))
      )
    all_goals (conv => whnf)
    all_goals (try dsimp only)
    refine Cells_call (rof t) fun H5 hg5 => ?_
    have hcb := cn_bd (rof t)
    skip
    all_goals (conv => whnf)
    all_goals (try dsimp only)
    refine loop_at (α := Nat × AH × AV × AV × List AV) (fun a => [(3, a.2.2.1), (4, a.2.2.2.1), (48, .int .i64 a.1)]) (fun a => a.2.1) (fun a => a.1 ≤ (cn (rof t)).toNat ∧ Own a.2.1 1 a.2.2.1 (is (rcI (rbit t) a.1)) ∧ NestS a.2.1 a.2.2.2.1 a.2.2.2.2 ∧ Sep a.2.1 a.2.2.2.2 (rdD (rof t) t (rbit t) a.1) ∧ (a.2.2.1.bid = none ∨ a.2.2.1.bid ≠ a.2.2.2.1.bid) ∧ Off a.2.2.1 a.2.2.2.2 ∧ Off a.2.2.2.1 a.2.2.2.2) (fun a => (cn (rof t)).toNat - a.1) (0, H5, .nils, .nils, []) ⟨by dsimp only; omega, Own.nil _ _, NestR.nil _ _, Sep.nil _, .inl rfl, fun y hy => by simp at hy, fun y hy => by simp at hy⟩ rfl rfl ?_
    rintro ⟨k, σ, ca, da, xs⟩ ⟨hk, hca, hda, hsp, hdj, hax, hbx⟩
    dsimp only at hk hca hda hsp hdj hax hbx ⊢
    by_cases hlt : k < (cn (rof t)).toNat
    · have e := shr_bit (b := getV t 1) (k := k) g1 (by omega)
      have hce := ce_of hlt
      have hlc := rcs_len (rbit t) k
      have hil : (is (rcI (rbit t) k)).length ≤ k := by rw [is_length, rcI, List.length_map]; exact hlc
      have hdl : xs.length ≤ k := by rw [hsp.len, rdD, List.length_map]; exact hlc
      by_cases hbit : getV t 1 / 2 ^ k % 2 = 1
      · have hb1 : bitB (rbit t) k = true := decide_eq_true hbit
        repeat' (first
          | ((with_reducible refine Side.intro ?_) <;> (first
          | omega
          | exact Nat.le_of_ble_eq_true rfl
          | exact rfl
          ))
          | ((conv => whnf) <;> (first
          | (with_reducible refine and_same ?_)
          | (with_reducible refine and_side ?_ ?_)
          | ((with_reducible apply Br.yes) ; (focus omega))
          | ((with_reducible apply blkAt_intro) ; (focus (first
          | ((repeat (first
          | exact get_new
          )); done)
          )) ; (focus (first | rfl | assumption | omega)) ; (try dsimp only))
          | (with_reducible refine AppC.frz ?_)
          | (with_reducible refine rowsR_rsl ?_)
          ))
          )
        all_goals (conv => whnf)
        all_goals (try dsimp only)
        refine appendR_own (rows := is (rcI (rbit t) k)) (hca.keepN (by (repeat (first
              | exact Gr.refl _ _
              | refine Gr.addN ?_ _
              )))) (by simp only [List.length_take, List.length_drop, List.length_set, List.length_replicate]; omega) ?_
        intro ca' σ1 hca' hg1' hb1'
        skip
        all_goals (conv => whnf)
        all_goals (try dsimp only)
        refine cellBytes_val σ1 t false (rof t) k hlen hce _ ?_
        intro σ2 hgs2
        have hcl := cel_len hlen hce
        skip
        all_goals (conv => whnf)
        all_goals (try dsimp only)
        refine call_sl (bytes_Clone_ok (cel (rof t) t k) (by have := cn_bd (rof t); omega)) (.cons (.bs _ _ _) .nil) fun σ3 x hg3' hx hxn => ?_
        have hg0 : Gr σ (newB σ 1 [[AV.int IntKind.i64 ↑k]] true) none := Gr.append _ _
        have l01 := hg1'.1
        have l12 := hgs2.1
        have l23 := hg3'.1
        simp only [newB_length, List.length_set] at l01
        have hda1 : NestS σ1 da xs := NestR.keep hg1' (NestR.keepN (by (repeat (first
              | assumption
              ))) hda) (disj_keep hdj)
        have hsp1 : Sep σ1 xs (rdD (rof t) t (rbit t) k) := Sep.keep (Sep.keepN (by (repeat (first
              | assumption
              ))) hsp) hg1' hax.keepd
        have D1 : ca'.bid = none ∨ ca'.bid ≠ da.bid := by
          rcases hb1' with q | q
          · rw [q]; exact hdj
          · right
            rw [q]
            intro e
            have := hda.lt e.symm
            simp only [newB_length, List.length_set] at this
            omega
        have A1 : Off ca' xs := by
          rcases hb1' with q | q
          · exact hax.same q
          · exact Off.new hsp q (by simp only [newB_length, List.length_set]; omega)
        have hda3 := NestR.keepN hg3' (NestR.keepN hgs2 hda1)
        have hsp3 := Sep.keepN hg3' (Sep.keepN hgs2 hsp1)
        have hca3 := (hca'.keepN hgs2).keepN hg3'
        have hxl : ∀ id, x.bid = some id → id < σ3.length := fun id hi => hx.lt hi
        have hxs : ∀ y, y ∈ xs → y.bid = none ∨ y.bid ≠ x.bid := fun y hy => by
          cases hb : y.bid with
          | none => exact .inl rfl
          | some a =>
            right
            intro e
            have p1 := hxn a e.symm
            have p2 := hsp1.lt hy hb
            omega
        have hxd : x.bid = none ∨ x.bid ≠ da.bid := by
          cases hb : x.bid with
          | none => exact .inl rfl
          | some a =>
            right
            intro e
            have p1 := hxn a hb
            have p2 := hda1.lt e.symm
            omega
        have hxc : x.bid = none ∨ x.bid ≠ ca'.bid := by
          cases hb : x.bid with
          | none => exact .inl rfl
          | some a =>
            right
            intro e
            have p1 := hxn a hb
            have p2 := hca'.lt e.symm
            omega
        obtain ⟨ox1, ox2, ox3⟩ := hx.one
        have raw : UseRaw := ⟨⟩
        repeat' (first
          | ((with_reducible refine Side.intro ?_) <;> (first
          | omega
          | exact Nat.le_of_ble_eq_true rfl
          ))
          | ((conv => whnf) <;> (first
          | (with_reducible refine and_same ?_)
          | (with_reducible refine and_side ?_ ?_)
          | ((with_reducible apply blkAt_intro) ; (focus (first
          | ((repeat (first
          | exact get_new
          )); done)
          )) ; (focus (first | rfl | assumption | omega)) ; (try dsimp only))
          | ((with_reducible apply AppC.raw) ; (focus assumption))
          | (with_reducible refine rowsR_rsl ?_)
          ))
          )
        all_goals (conv => whnf)
        all_goals (try dsimp only)
        rw [ox1]
        refine NestS.append (xs := xs) (x := x) (NestR.keepN (Gr.append _ _) hda3) (by omega) (fun id hi => by have := hxl id hi; simp only [newB_length]; omega) hxd ?_
        intro da' σ4 hda' hg4' hb4'
        have hx4 : Own σ4 1 x (bs (cel (rof t) t k)) := Own.keep hg4' (hx.keepN (Gr.append _ _)) (disj_keep (disj_symm hxd))
        have hca4 : Own σ4 1 ca' _ := Own.keep hg4' (hca3.keepN (Gr.append _ _)) (disj_keep (disj_symm D1))
        have hsp4 : Sep σ4 xs (rdD (rof t) t (rbit t) k) := Sep.keep (Sep.keepN (Gr.append _ _) hsp3) hg4' hbx.keepd
        have D2 : ca'.bid = none ∨ ca'.bid ≠ da'.bid := by
          rcases hb4' with q | q
          · rw [q]; exact D1
          · right
            rw [q]
            intro e
            have := hca3.lt e
            simp only [newB_length] at this
            omega
        have A2 : Off da' (xs ++ [x]) := by
          rcases hb4' with q | q
          · exact (hbx.snoc hxd).same q
          · refine Off.snoc (Off.new hsp3 q (by simp only [newB_length]; omega)) ?_
            rw [q]
            cases hb : x.bid with
            | none => exact .inl rfl
            | some a =>
              right
              intro e
              cases e
              have := hxl _ hb
              simp only [newB_length] at this
              omega
        repeat' (first
          | ((conv => whnf) <;> (first
          | (with_reducible refine and_same ?_)
          | ((with_reducible apply Br.yes) ; (focus omega))
          ))
          )
        all_goals (conv => whnf)
        all_goals (try dsimp only)
        refine ⟨(k + 1, σ4, ca', da', xs ++ [x]), rfl, rfl, ⟨by dsimp only; omega, ?_, hda', ?_, D2, A1.snoc hxc, A2⟩, by dsimp only; omega⟩
        · dsimp only
          rw [rcI, rcs_yes hb1, List.map_append, ← is_append]
          exact hca4
        · dsimp only
          rw [rdD, rcs_yes hb1, List.map_append]
          exact Sep.snoc hsp4 hx4 hxs
      · have hb1 : bitB (rbit t) k = false := decide_eq_false hbit
        have em : (getV t 1 / 2 ^ k % 2 : Nat) = 0 := by omega
        repeat' (first
          | ((with_reducible refine Side.intro ?_) <;> (first
          | omega
          ))
          | ((conv => whnf) <;> (first
          | (with_reducible refine and_same ?_)
          | (with_reducible refine and_side ?_ ?_)
          | ((with_reducible apply Br.yes) ; (focus omega))
          | ((with_reducible apply Br.no) ; (focus omega))
          ))
          )
        all_goals (conv => whnf)
        all_goals (try dsimp only)
        refine ⟨(k + 1, σ, ca, da, xs), rfl, rfl, ⟨by dsimp only; omega, ?_, hda, ?_, hdj, hax, hbx⟩, by dsimp only; omega⟩
        · dsimp only
          rw [rcI, rcs_no hb1]; exact hca
        · dsimp only
          rw [rdD, rcs_no hb1]; exact hsp
    · have hkk : k = (cn (rof t)).toNat := by omega
      subst hkk
      have eC : rcI (rbit t) (cn (rof t)).toNat = rC t := rfl
      have eD : rdD (rof t) t (rbit t) (cn (rof t)).toNat = rD t := rfl
      rw [eC] at hca
      rw [eD] at hsp
      obtain ⟨hcl, hdl, hdd⟩ := rCD_len t
      have eO : srOk t = (swOk (rof t) (rC t) (rD t) (rN t) (rP t) && decide (swR (rof t) (rC t) (rD t) (rN t) (rP t) = t)) := by rw [srOk, decide_eq_true hlen, Bool.true_and]
      repeat' (first
        | ((conv => whnf) <;> (first
        | (with_reducible refine and_same ?_)
        | ((with_reducible apply Br.no) ; (focus omega))
        ))
        )
      all_goals (conv => whnf)
      all_goals (try dsimp only)
      refine SWrite_call (rof t) (rC t) (rD t) (rN t) (rP t) (by omega) (by omega) hdd (Looks.ownis hca) (NestS.looks hda hsp) fun H6 y hg6 hy hyn => ?_
      cases hw : swOk (rof t) (rC t) (rD t) (rN t) (rP t)
      · have h0 : srOk t = false := by rw [eO, hw]; rfl
        rw [show swE (rof t) (rC t) (rD t) (rN t) (rP t) = 1 from by rw [swE, hw]; rfl]
        repeat' (first
          | ((conv => whnf) <;> (first
          | (with_reducible refine and_same ?_)
          | ((with_reducible apply Br.yes) ; (focus omega))
          ))
          )
        all_goals (conv => whnf)
        all_goals (try dsimp only)
        exact SrH.no h0 _
      · rw [show swE (rof t) (rC t) (rD t) (rN t) (rP t) = 0 from by rw [swE, hw]; rfl]
        have hwl : (swR (rof t) (rC t) (rD t) (rN t) (rP t)).length ≤ 4611686018 := by rw [swR_len hw]; omega
        repeat' (first
          | ((conv => whnf) <;> (first
          | (with_reducible refine and_same ?_)
          | ((with_reducible apply Br.no) ; (focus omega))
          ))
          )
        all_goals (conv => whnf)
        all_goals (try dsimp only)
        refine Equal_call _ t hwl hs (Looks.ownbs hy) (.bs _ _ _) fun H7 hg7 => ?_
        by_cases he : swR (rof t) (rC t) (rD t) (rN t) (rP t) = t
        · have h0 : srOk t = true := by rw [eO, hw, decide_eq_true he]; rfl
          obtain ⟨r1, r2, r3⟩ := sr_yes h0
          rw [decide_eq_true he]
          skip
          all_goals (conv => whnf)
          all_goals (try dsimp only)
          exact ⟨ca, da, xs, by rw [r1, r1, r1, h0]; rfl, by rw [r2]; exact hca.keepN (hg6.trans hg7), NestR.keepN (hg6.trans hg7) hda, by rw [r3]; exact hsp.keepN (hg6.trans hg7), hdj, hax, hbx⟩
        · have h0 : srOk t = false := by rw [eO, hw, decide_eq_false he]; rfl
          rw [decide_eq_false he]
          skip
          all_goals (conv => whnf)
          all_goals (try dsimp only)
          exact SrH.no h0 _
  · have h0 : srOk t = false := by rw [srOk, decide_eq_false hlen]; rfl
    repeat' (first
      | ((conv => whnf) <;> (first
      | (with_reducible refine and_same ?_)
      | ((with_reducible apply Br.yes) ; (focus omega))
      | (with_reducible refine lenR_sl ?_)
      ))
      )
    all_goals (conv => whnf)
    all_goals (try dsimp only)
    exact SrH.no h0 _
end Go.Proofs.Ytabdieanlhecoaa
